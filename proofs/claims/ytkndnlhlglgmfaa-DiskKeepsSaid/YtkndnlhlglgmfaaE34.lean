/-
  The law 'DiskKeeps', walked.
-/
import Derived.Test.YtkndnlhlglgmfaaE33
namespace Go.Proofs.Ytkndnlhlglgmfaa
open Go.RowKit Go.WideElems Go.MapKept Go.ChangeMaps
/-- A disk of ten sectors of sixteen bytes, whose power is there. -/
structure W10 (x : Dk) (k : Nat) : Prop where
  wf : Wf x k
  live : Live x
  num : x.has.length = 10
  size : x.size = 16
theorem W10.write {x : Dk} {k : Nat} (h : W10 x k) (i : Int) (xs : List Int) : W10 (writeI x i xs).1 (k + 1) := ⟨h.wf.write i xs, h.live.write i xs, (write_form x i xs).1.trans h.num, (write_form x i xs).2.trans h.size⟩
theorem W10.flush {x : Dk} {k : Nat} (h : W10 x k) : W10 (flushI x).1 (k + 1) := ⟨h.wf.flush, h.live.flush, (flush_form x).1.trans h.num, (flush_form x).2.trans h.size⟩
theorem W10.crash {x : Dk} {k : Nat} (h : W10 x k) (zs : List Int) : W10 (crashI x zs) k := ⟨h.wf.crash zs, Live.crash x zs, (crash_form x zs).1.trans h.num, (crash_form x zs).2.trans h.size⟩
theorem Live.flush0 {x : Dk} (h : Live x) : (flushI x).2 = 0 ∧ ∀ i, (flushI x).1.ca i = none := by
  unfold flushI
  rw [if_neg (by rw [h.2]; decide), if_pos h.comm.2]
  exact ⟨rfl, fun i => rfl⟩
/-- A write: refused, and nothing is turned; or cached. -/
theorem Live.wrote {x : Dk} (h : Live x) (i : Int) (xs : List Int) : ((writeI x i xs).2 ≠ 0 ∧ (writeI x i xs).1 = x) ∨ ((writeI x i xs).2 = 0 ∧ 0 ≤ i ∧ i < x.has.length ∧ (writeI x i xs).1.has = x.has ∧ (writeI x i xs).1.ca = updI x.ca i (some xs)) := by
  unfold writeI
  rw [if_neg (by rw [h.2]; decide)]
  by_cases hc : checkI x i xs.length ≠ 0
  · rw [if_pos hc]
    exact .inl ⟨hc, rfl⟩
  · rw [if_neg hc]
    obtain ⟨h1, h2, _⟩ := checkI_ok (show checkI x i xs.length = 0 by omega)
    have hl : Live { x with ca := updI x.ca i (some xs) } := h
    exact .inr ⟨hl.comm.2, h1, h2, by rw [commI_has], by unfold commI; split <;> rfl⟩
theorem dropAll_or (ca : Int → Option (List Int)) (zs : List Int) (i : Int) : dropAll ca zs i = none ∨ dropAll ca zs i = ca i := by
  induction zs generalizing ca with
  | nil => exact .inr rfl
  | cons z zs ih =>
    rcases ih (updI ca z none) with h | h
    · exact .inl h
    · have e : dropAll ca (z :: zs) i = dropAll (updI ca z none) zs i := rfl
      rw [e, h]
      unfold updI
      split
      · exact .inl rfl
      · exact .inr rfl
/-- Behind a crash: what stood, or what was cached. -/
theorem crash_now (x : Dk) (zs : List Int) (i : Nat) (hi : i < x.has.length) : nowI (crashI x zs) i = x.has.getD i [] ∨ ∃ ys, x.ca i = some ys ∧ nowI (crashI x zs) i = ys := by
  have e : nowI (crashI x zs) i = (dropAll x.ca zs i).getD (x.has.getD i []) := by
    unfold nowI crashI settleI
    simp [List.getD_eq_getElem?_getD, hi]
  rw [e]
  rcases dropAll_or x.ca zs i with h | h
  · rw [h]; exact .inl rfl
  · rw [h]
    cases hc : x.ca (i : Nat) with
    | none => exact .inl rfl
    | some ys => exact .inr ⟨ys, rfl, rfl⟩
/-- What may be there. -/
def mayL (x : Dk) (i : Int) : List (List Int) := x.has.getD i.toNat [] :: (x.ca i).toList
theorem mayL_has (x : Dk) (zs : List Int) (i : Nat) (hi : i < x.has.length) : nowI (crashI x zs) i ∈ mayL x i := by
  unfold mayL
  rcases crash_now x zs i hi with h | ⟨ys, h1, h2⟩
  · rw [h, Int.toNat_natCast]; simp
  · rw [h2, h1]; simp
theorem mayL_len (x : Dk) (i : Int) : 0 < (mayL x i).length ∧ (mayL x i).length ≤ 2 := by
  unfold mayL
  cases x.ca i <;> simp
/-- The disk leaves, where others' blocks of strings, or a map, turn. -/
theorem DskV.other {S : Nat → Prop} {w w' : World} {p b : Nat} {sv : Value} {x : Dk} {k : Nat} (h : DskV w p b sv x k) (hc : Chg S w w') (hS : ∀ j, OwnD p b sv j → ¬ S j) (h5 : ∀ j cur fr, S j → w.heap[j]? ≠ some (.cells cur 5 fr)) : DskV w' p b sv x k := by
  obtain ⟨m, ss, C, h1, h2⟩ := h
  exact ⟨m, ss, C, h1.chg hc (hS p (.inl rfl)) (hS b (.inr (.inl rfl))) (fun j hj => hS j (.inr (.inr hj))) h5, h2⟩
theorem MayAt.not5 {w : World} {mb m : Nat} {C : Int → Option Value} {M : Int → Option (List (List Int))} (h : MayAt w mb m C M) : ∀ j cur fr, OwnM mb C j → w.heap[j]? ≠ some (.cells cur 5 fr) := by
  intro j cur fr hj hh
  rcases hj with rfl | ⟨i, v, hv, hj⟩
  · obtain ⟨es, cl, hb⟩ := h.map.block
    rw [hb] at hh; cases hh
  · obtain ⟨_, _, l, _, _, _, h6⟩ := h.val i v hv
    obtain ⟨cu, fu, hg⟩ := own_type h6 j hj
    rw [hg] at hh; cases hh
/-- A value is stored, behind an append to the one before. -/
theorem MayAt.put2 {S : Nat → Prop} {w w1 w2 : World} {mb m : Nat} {C : Int → Option Value} {M : Int → Option (List (List Int))} (h : MayAt w mb m C M) (hc1 : Chg S w w1) {i : Int} (hS : ∀ g, S g → ∃ v, C i = some v ∧ v.ownBlock = some g) (hc : Chg (fun k => k = mb) w1 w2) (hi : 0 ≤ i ∧ i < 10) {v : Value} (hm : CacheAt w2 mb (m + 1) (upd C i (some v))) {l : List (List Int)} (h1 : 0 < l.length) (h2 : l.length ≤ 2) (hv : w1.ownsRow 0 9 1 v l.length (strV l))
    (hnew : ∀ g, v.ownBlock = some g → S g ∨ w.heap.size ≤ g) : MayAt w2 mb (m + 1) (upd C i (some v)) (updM M i l) := by
  have hmbS : ¬ S mb := fun hs => by
    obtain ⟨u, hu, hg⟩ := hS mb hs
    obtain ⟨es, cl, hb⟩ := h.map.block
    obtain ⟨_, _, l', _, _, _, h6⟩ := h.val i u hu
    obtain ⟨cu, fu, hh⟩ := own_type h6 mb hg
    rw [hb] at hh; cases hh
  obtain ⟨es, cl, hb⟩ := (h.map.chg hc1 hmbS).block
  have hk : ∀ (u : Value) (n : Nat) (us : List Value), w1.ownsRow 0 9 1 u n us → w2.ownsRow 0 9 1 u n us := fun u n us hu => own_chg' hu hc (fun k cur fr e hh => by subst e; rw [hb] at hh; cases hh)
  have hno : ∀ j u g, j ≠ i → C j = some u → u.ownBlock = some g → ¬ S g := fun j u g hj hu hg hs => by
    obtain ⟨v0, hv0, hg0⟩ := hS g hs
    exact hj (h.ap j i u v0 g hu hv0 hg hg0)
  have hlt : ∀ j u g, C j = some u → u.ownBlock = some g → g < w.heap.size := fun j u g hu hg => h.lt g (.inr ⟨j, u, hu, hg⟩)
  refine ⟨hm, fun j u hu => ?_, fun j hj => ?_, fun j k u x g hu hx hg1 hg2 => ?_⟩
  · unfold upd at hu
    unfold updM
    by_cases e : j = i
    · rw [if_pos e] at hu
      injection hu with hu
      subst hu e
      exact ⟨hi.1, hi.2, l, by rw [if_pos rfl], h1, h2, hk _ _ _ hv⟩
    · rw [if_neg e] at hu
      obtain ⟨a1, a2, l', a3, a4, a5, a6⟩ := h.val j u hu
      exact ⟨a1, a2, l', by rw [if_neg e]; exact a3, a4, a5, hk _ _ _ (own_chg a6 hc1 (fun g hg => hno j u g e hu hg))⟩
  · unfold upd at hj
    unfold updM
    by_cases e : j = i
    · rw [if_pos e] at hj; cases hj
    · rw [if_neg e] at hj ⊢; exact h.non j hj
  · unfold upd at hu hx
    by_cases e1 : j = i
    · by_cases e2 : k = i
      · rw [e1, e2]
      · rw [if_pos e1] at hu
        rw [if_neg e2] at hx
        injection hu with hu
        subst hu
        rcases hnew g hg1 with hs | hs
        · exact absurd hs (hno k x g e2 hx hg2)
        · have := hlt k x g hx hg2; omega
    · rw [if_neg e1] at hu
      by_cases e2 : k = i
      · rw [if_pos e2] at hx
        injection hx with hx
        subst hx
        rcases hnew g hg2 with hs | hs
        · exact absurd hs (hno j u g e1 hu hg1)
        · have := hlt j u g hu hg1; omega
      · rw [if_neg e2] at hx
        exact h.ap j k u x g hu hx hg1 hg2
theorem small_of3 {os : List OpI} {n : Nat} (h : (smallB os && decide ((os.length : Int) ≤ (n : Int))) = true) : os.length ≤ n ∧ ∀ j, j < os.length → (os.getD j default).dat.length ≤ 200 ∧ (os.getD j default).lost.length ≤ 40 := small_of h
set_option maxRecDepth 100000 in
set_option maxHeartbeats 4000000 in
theorem diskKeeps_any (w : World) (v1 : Value) (os1 : List OpI) (ds1 : List (Value × Value)) (h1 : OpsAt w v1 os1 ds1) (hok1 : ∀ j, j < os1.length → OpOk (os1.getD j default)) (v2 : Value) (os2 : List OpI) (ds2 : List (Value × Value)) (h2 : OpsAt w v2 os2 ds2) (hok2 : ∀ j, j < os2.length → OpOk (os2.getD j default)) (v3 : Value) (zs : List Int) (h3 : SlI w v3 zs) (hz : ∀ j, I64 (zs.getD j 0)) : Calls Try.prog 7 #[v1, v2, v3] w (TruePost w) := by
  obtain ⟨A, c, rfl, hc1, hc2⟩ := h1.shape
  obtain ⟨A', c', rfl, hc1', hc2'⟩ := h2.shape
  obtain ⟨AZ, cz, rfl, hcz1, hcz2⟩ := h3.shape
  have HO1 := Lib.hid h1
  have HOK1 := Lib.hid hok1
  have HO2 := Lib.hid h2
  have HOK2 := Lib.hid hok2
  have HZ := Lib.hid h3
  have HZB := Lib.hid hz
  clear h1 hok1 h2 hok2 h3 hz
  have hmk := fun w1 => run_makeMap (P := Try.prog) 63 w1
  go_enter Try.func7, Try.ntmps7
  go_wp2_with fail
  refine (vnew w 10 16 (by unfold FormOk; omega)).mono ?_
  rintro e W1 hp
  obtain ⟨p, b, sv, rfl, hd1, ho1, hb1⟩ := hp
  have HD1 := Lib.hid hd1
  have HOW1 : Hid (∀ j, OwnD p b sv j → w.heap.size ≤ j) := Lib.hid ho1
  have HC1 : Hid (Chg (fun i => w.heap.size ≤ i) w W1) := Lib.hid ((up_below hb1).mono (fun _ _ h => h.elim))
  clear hd1 ho1 hb1
  have HS1 := Lib.hid (small_any W1 _ os1 ds1 (HO1.out.below HC1.out) 30)
  go_wp2_with fail
  refine HS1.out.mono ?_
  rintro e W3 ⟨rfl, hb3⟩
  have HC3 := Lib.hid (HC1.out.then (up_below hb3) (fun _ h => h.elim))
  have HD3 := Lib.hid (HD1.out.up (up_below hb3))
  clear hb3 HS1 HC1 HD1
  cases hsm1 : (smallB os1 && decide ((os1.length : Int) ≤ 30)) with
  | false =>
    have HA := Lib.hid (awake_any W3)
    go_wp2_with (go_at_call 13; refine HA.out.mono ?_; rintro e w' ⟨rfl, hb⟩)
    go_ret
    exact ⟨rfl, (HC3.out.then (up_below hb) (fun _ h => h.elim)).below (Nat.le_refl _) (fun _ h => h)⟩
  | true =>
    obtain ⟨hl1, hsm1'⟩ := small_of (n := 30) hsm1
    have HSM1 := Lib.hid hsm1'
    clear hsm1 hsm1'
    have HS2 := Lib.hid (small_any W3 _ os2 ds2 (HO2.out.below HC3.out) 30)
    go_wp2_with fail
    refine HS2.out.mono ?_
    rintro e W4 ⟨rfl, hb4⟩
    have HC4 := Lib.hid (HC3.out.then (up_below hb4) (fun _ h => h.elim))
    have HD4 := Lib.hid (HD3.out.up (up_below hb4))
    clear hb4 HS2 HC3 HD3
    cases hsm2 : (smallB os2 && decide ((os2.length : Int) ≤ 30)) with
    | false =>
      have HA := Lib.hid (awake_any W4)
      go_wp2_with (go_at_call 13; refine HA.out.mono ?_; rintro e w' ⟨rfl, hb⟩)
      go_ret
      exact ⟨rfl, (HC4.out.then (up_below hb) (fun _ h => h.elim)).below (Nat.le_refl _) (fun _ h => h)⟩
    | true =>
      obtain ⟨hl2, hsm2'⟩ := small_of (n := 30) hsm2
      have HSM2 := Lib.hid hsm2'
      clear hsm2 hsm2'
      by_cases hz40 : (40 : Int) < zs.length
      · have HA := Lib.hid (awake_any W4)
        go_wp2_with (go_at_call 13; refine HA.out.mono ?_; rintro e w' ⟨rfl, hb⟩)
        go_ret
        exact ⟨rfl, (HC4.out.then (up_below hb) (fun _ h => h.elim)).below (Nat.le_refl _) (fun _ h => h)⟩
      go_wp2_with fail
      go_loopw [48] (fun i wr => ∃ (k : Nat) (x : Dk), k ≤ os1.length ∧ i = .int .i64 k ∧ DskV wr p b sv x k ∧ W10 x k ∧ Chg (fun i => w.heap.size ≤ i) w wr) (fun i _ => os1.length - (intOf i).toNat)
      case atStart => exact ⟨0, freshI 10 16, by omega, rfl, HD4.out, ⟨Wf.fresh 10 16 (by omega) (by omega), Live.fresh 10 16, rfl, rfl⟩, HC4.out⟩
      case round =>
        rename World => wr
        obtain ⟨k, x, hk, rfl, hd, hwf, hch⟩ := hrel
        by_cases hk2 : (k : Int) < os1.length
        · have ho := HO1.out.below (hch)
          have ho0 := HO1.out
          obtain ⟨bb, off, cc, he, _, _, hcells⟩ := ho.cells (by omega)
          injection he with e1 e2 e3
          subst e1 e3
          obtain ⟨r0, r1, r2, r3, r4⟩ := hcells k (by omega)
          have hdd := ho0.dat k (by omega)
          have hll := ho0.lost k (by omega)
          have hok := HOK1.out k (by omega)
          have hsm := HSM1.out k (by omega)
          obtain ⟨⟨d1, d2⟩, hde⟩ : ∃ d, ds1.getD k uu = d := ⟨_, rfl⟩
          obtain ⟨o, hoe⟩ : ∃ o, os1.getD k default = o := ⟨_, rfl⟩
          rw [hde] at r3 r4 hdd hll
          rw [hoe] at r0 r1 r2 hdd hll hok hsm
          dsimp only at r3 r4 hdd hll
          obtain ⟨A1, c1, rfl, x1, x2⟩ := hdd.shape
          obtain ⟨A2, c2, rfl, y1, y2⟩ := hll.shape
          obtain ⟨hsm1, hsm2⟩ := hsm
          have hu : Up wr (wr.alloc (.cells #[.int .i64 o.kind, .int .i64 o.sec, .int .i64 o.num, .slice A1 o.dat.length c1, .slice A2 o.lost.length c2] 31)) := (Chg.refl _ wr).alloc _
          have HWR := Lib.hid (vwrite _ p b sv x k (hd.up hu) hwf.wf (by omega) o.sec (.slice A1 o.dat.length c1) o.dat (Src.chg (src_below hdd (by decide) hch) hu (fun _ _ _ h => h) (by decide)) (by omega))
          have HW2 := Lib.hid (hwf.write o.sec o.dat)
          have HCH : Hid (Chg (fun i => w.heap.size ≤ i) w (wr.alloc (.cells #[.int .i64 o.kind, .int .i64 o.sec, .int .i64 o.num, .slice A1 o.dat.length c1, .slice A2 o.lost.length c2] 31))) := Lib.hid (hch.then hu (fun _ h => h.elim))
          obtain ⟨y, hy⟩ : ∃ y, (writeI x o.sec o.dat).1 = y := ⟨_, rfl⟩
          rw [hy] at HWR HW2
          clear hy hd hwf hch ho ho0 hcells hdd hll hok hde hoe hu
          go_wp2_with fail
          refine HWR.out.mono ?_
          rintro e W6 ⟨rfl, hd6, hc6⟩
          have HX6 : Hid (DskV W6 p b sv y (k + 1) ∧ W10 y (k + 1) ∧ Chg (fun i => w.heap.size ≤ i) w W6) := Lib.hid ⟨hd6, HW2.out, HCH.out.then hc6 (fun i hi => .inl (HOW1.out i hi))⟩
          clear hd6 hc6 HWR HCH
          go_wp2_with fail
          exact ⟨⟨k + 1, y, by omega, by go_num, HX6.out⟩, by simp [intOf]; omega⟩
        · obtain rfl : k = os1.length := by omega
          have HFL := Lib.hid (vflush wr p b sv x _ hd hwf.wf (by omega))
          have hf0 := hwf.live.flush0
          have HW6 := Lib.hid hwf.flush
          have HC5 := Lib.hid hch
          obtain ⟨y, hy⟩ : ∃ y, (flushI x).1 = y := ⟨_, rfl⟩
          rw [hy] at HFL HW6 hf0
          rw [hf0.1] at HFL
          have HNC := Lib.hid hf0.2
          clear hd hwf hch HD4 HC4 hf0 hy
          go_wp2_with fail
          refine HFL.out.mono ?_
          rintro e W6 ⟨rfl, hd6, hc6⟩
          have HD6 := Lib.hid hd6
          have HC6 := Lib.hid (HC5.out.then hc6 (fun i hi => .inl (HOW1.out i hi)))
          clear hd6 hc6 HFL HC5
          go_wp2_with fail
          obtain ⟨mb, hmb⟩ : ∃ mb, W6.heap.size = mb := ⟨_, rfl⟩
          have hmay := may_new W6
          rw [hmb] at hmay ⊢
          have HMB := Lib.hid hmb
          have HMAY := Lib.hid hmay
          have HC7 : Hid (Chg (fun i => W6.heap.size ≤ i) W6 (W6.alloc (.map #[] 0))) := Lib.hid ((Chg.refl _ W6).alloc _)
          clear hmb hmay
          go_loopw [63] (fun t wr => ∃ (i m : Nat) (C : Int → Option Value) (M : Int → Option (List (List Int))), i ≤ 10 ∧ t = .int .i64 i ∧ MayAt wr mb m C M ∧ m ≤ i ∧ (∀ j : Int, M j = if 0 ≤ j ∧ j < i then some [nowI y j] else none) ∧ (∀ j, OwnM mb C j → W6.heap.size ≤ j) ∧ Chg (fun i => W6.heap.size ≤ i) W6 wr) (fun t _ => 10 - (intOf t).toNat)
          case atStart => exact ⟨0, 0, _, _, by omega, rfl, HMAY.out, by omega, fun j => (by rw [if_neg (by omega)]), fun j hj => hj.elim (fun e => by rw [e]; exact Nat.le_of_eq HMB.out) (fun ⟨_, _, hv, _⟩ => by cases hv), HC7.out⟩
          case round =>
            rename World => wr
            obtain ⟨i, m, C, M, hi, rfl, hmay, hm, hM, hown, hch⟩ := hrel
            by_cases hi2 : (i : Int) < 10
            · have hdr := HD6.out.up (hch.below_none (fun i hi h => by omega) |> up_below)
              have hr1 := vread wr p b sv y _ hdr HW6.out.wf (i : Int) (by unfold I64; omega)
              rw [HW6.out.live.read i (by rw [HW6.out.num]; omega)] at hr1
              dsimp only at hr1
              have HR1 := Lib.hid hr1
              have HMAY := Lib.hid hmay
              have HM := Lib.hid hM
              have HOWN := Lib.hid hown
              have HCH := Lib.hid hch
              clear hdr hr1 hmay hM hown hch
              go_wp2_with fail
              refine HR1.out.mono ?_
              rintro e wa ⟨va, rfl, hva, hba⟩
              have hst := sl_string (slb_of hva)
              obtain ⟨s0, hs0⟩ : ∃ s, strOfNums (nowI y i) = s := ⟨_, rfl⟩
              rw [hs0] at hst
              have hmay := HMAY.out.up (up_below hba)
              have hCn : C (i : Int) = none := by
                cases hc : C (i : Int) with
                | none => rfl
                | some v =>
                  obtain ⟨_, _, l, h3, _⟩ := hmay.val _ v hc
                  rw [HM.out, if_neg (by omega)] at h3; cases h3
              have hlk := look63 hmay.map (show I64 (i : Int) by unfold I64; omega)
              rw [hCn] at hlk
              simp only [Option.getD_none] at hlk
              obtain ⟨A2, c2, w2, hrun, ho2, hc2, hb2⟩ := push_strV wa wa.heap.size (.slice none 0 0) [] (World.ownsRow_nil _ _ _ _) (nowI y i) s0 hs0 (Nat.le_refl _) (by simp)
              have hu2 : Up wa w2 := hc2.mono (fun j _ hj => by simp [Value.ownBlock] at hj)
              have hmay2 := hmay.up hu2
              obtain ⟨w3, hup, hm3, hc3⟩ := store63 hmay2.map (by omega) (show I64 (i : Int) by unfold I64; omega) (.slice A2 ([] ++ [nowI y i]).length c2)
              have hnew : ∀ g, (Value.slice A2 ([] ++ [nowI y i]).length c2).ownBlock = some g → wa.heap.size ≤ g := fun g hg => by
                rcases ho2.2 with ⟨e, _⟩ | ⟨g', cap, cur, e, hb, _⟩
                · rw [e] at hg; simp [Value.ownBlock] at hg
                · rw [e] at hg; simp [Value.ownBlock] at hg; omega
              have hmay3 := hmay2.put hc3 (show 0 ≤ (i : Int) ∧ (i : Int) < 10 by omega) hm3 (l := [] ++ [nowI y i]) (by simp) (by simp) (own_base ho2 (Nat.zero_le _)) (fun j u g hj hu hg1 hg2 => by
                have := hnew g hg1
                have := hmay.lt g (.inr ⟨j, u, hu, hg2⟩)
                omega)
              have hszw := HCH.out.size
              have hszb := (up_below hba).size
              have HREL : Hid (MayAt w3 mb (m + 1) (upd C i (some (.slice A2 ([] ++ [nowI y i]).length c2))) (updM M i ([] ++ [nowI y i])) ∧ (∀ j, OwnM mb (upd C i (some (.slice A2 ([] ++ [nowI y i]).length c2))) j → W6.heap.size ≤ j) ∧ Chg (fun i => W6.heap.size ≤ i) W6 w3) := Lib.hid ⟨hmay3, fun j hj => by
                rcases hj with rfl | ⟨i', v, hv, hj⟩
                · exact HOWN.out _ (.inl rfl)
                · unfold upd at hv
                  split at hv
                  · injection hv with hv
                    subst hv
                    have := hnew j hj
                    omega
                  · exact HOWN.out j (.inr ⟨i', v, hv, hj⟩), ((HCH.out.then (up_below hba) (fun _ h => h.elim)).then hu2 (fun _ h => h.elim)).then hc3 (fun j hj => .inl (by rw [hj]; exact HOWN.out _ (.inl rfl)))⟩
              have HRUN := Lib.hid hrun
              have HUP := Lib.hid hup
              clear hva hba hs0 hmay hrun ho2 hc2 hb2 hu2 hmay2 hup hm3 hc3 hnew hmay3
              go_wp2_with (first | (at_builtin; refine wpList_run_append rfl (.tmp 78) (.tmp 81) 51 rfl _ _ rfl rfl 51 rfl HRUN.out ?_) | refine wpList_mapU rfl _ _ _ 63 rfl rfl rfl rfl HUP.out ?_)
              exact ⟨⟨i + 1, m + 1, _, _, by omega, by go_num, HREL.out.1, by omega, fun j => by
                unfold updM
                rw [HM.out]
                by_cases hj : j = i
                · rw [if_pos hj, if_pos (by omega), hj]; rfl
                · rw [if_neg hj]
                  by_cases hj2 : 0 ≤ j ∧ j < i
                  · rw [if_pos hj2, if_pos (by omega)]
                  · rw [if_neg hj2, if_neg (by omega)], HREL.out.2.1, HREL.out.2.2⟩, by simp [intOf]; omega⟩
            · have hi10 : i = 10 := by omega
              subst hi10
              have HD7 := Lib.hid (HD6.out.up (hch.below_none (fun i hi h => by omega) |> up_below))
              have HC7 := Lib.hid (HC6.out.then hch (fun i hi => .inr (Nat.le_trans HC6.out.size hi)))
              have HMAY7 := Lib.hid hmay
              have hmy : ∀ j : Int, M j = if 0 ≤ j ∧ j < 10 then some (mayL y j) else none := fun j => by
                rw [hM]
                by_cases hj : 0 ≤ j ∧ j < 10
                · rw [if_pos hj, if_pos (by omega)]
                  unfold mayL nowI
                  rw [HNC.out]; rfl
                · rw [if_neg hj, if_neg (by omega)]
              have HM7 := Lib.hid hmy
              have HOWN7 := Lib.hid hown
              have HLTD : Hid (∀ j, OwnD p b sv j → j < W6.heap.size) := Lib.hid (fun j hj => HD6.out.lt j hj)
              have hWB := HC6.out.size
              clear hmay hM hown hch hmy HC6 HD6 HMAY HNC
              go_wp2_with fail
              go_loopw [86] (fun t wr => ∃ (k m : Nat) (x : Dk) (C : Int → Option Value) (M : Int → Option (List (List Int))), k ≤ os2.length ∧ t = .int .i64 k ∧ DskV wr p b sv x (os1.length + 1 + k) ∧ W10 x (os1.length + 1 + k) ∧ MayAt wr mb m C M ∧ m ≤ 10 + k ∧ (∀ j : Int, M j = if 0 ≤ j ∧ j < 10 then some (mayL x j) else none) ∧ (∀ j, OwnM mb C j → W6.heap.size ≤ j) ∧ Chg (fun i => w.heap.size ≤ i) w wr) (fun t _ => os2.length - (intOf t).toNat)
              case atStart => exact ⟨0, m, y, C, M, by omega, rfl, HD7.out, HW6.out, HMAY7.out, by omega, HM7.out, HOWN7.out, HC7.out⟩
              case round =>
                rename World => wr
                obtain ⟨k, m, x, C, M, hk, rfl, hd, hwf, hmay, hm, hM, hown, hch⟩ := hrel
                by_cases hk2 : (k : Int) < os2.length
                · have ho := HO2.out.below (hch)
                  have ho0 := HO2.out
                  obtain ⟨bb, off, cc, he, _, _, hcells⟩ := ho.cells (by omega)
                  injection he with e1 e2 e3
                  subst e1 e3
                  obtain ⟨r0, r1, r2, r3, r4⟩ := hcells k (by omega)
                  have hdd := ho0.dat k (by omega)
                  have hll := ho0.lost k (by omega)
                  have hok := HOK2.out k (by omega)
                  have hsm := HSM2.out k (by omega)
                  obtain ⟨⟨d1, d2⟩, hde⟩ : ∃ d, ds2.getD k uu = d := ⟨_, rfl⟩
                  obtain ⟨o, hoe⟩ : ∃ o, os2.getD k default = o := ⟨_, rfl⟩
                  rw [hde] at r3 r4 hdd hll
                  rw [hoe] at r0 r1 r2 hdd hll hok hsm
                  dsimp only at r3 r4 hdd hll
                  obtain ⟨A1, c1, rfl, x1, x2⟩ := hdd.shape
                  obtain ⟨A2, c2, rfl, y1, y2⟩ := hll.shape
                  obtain ⟨hsm1, hsm2⟩ := hsm
                  have hu : Up wr (wr.alloc (.cells #[.int .i64 o.kind, .int .i64 o.sec, .int .i64 o.num, .slice A1 o.dat.length c1, .slice A2 o.lost.length c2] 31)) := (Chg.refl _ wr).alloc _
                  have HWR := Lib.hid (vwrite _ p b sv x _ (hd.up hu) hwf.wf (by omega) o.sec (.slice A1 o.dat.length c1) o.dat (Src.chg (src_below hdd (by decide) hch) hu (fun _ _ _ h => h) (by decide)) (by omega))
                  have HDD := Lib.hid (Src.chg (src_below hdd (by decide) hch) hu (fun _ _ _ h => h) (by decide))
                  have HW2 := Lib.hid (hwf.write o.sec o.dat)
                  have HCH : Hid (Chg (fun i => w.heap.size ≤ i) w (wr.alloc (.cells #[.int .i64 o.kind, .int .i64 o.sec, .int .i64 o.num, .slice A1 o.dat.length c1, .slice A2 o.lost.length c2] 31))) := Lib.hid (hch.then hu (fun _ h => h.elim))
                  have HMAY := Lib.hid (hmay.up hu)
                  have HM := Lib.hid hM
                  have HOWN := Lib.hid hown
                  have HLTW : Hid (∀ j, OwnD p b sv j → j < wr.heap.size) := Lib.hid (fun j hj => hd.lt j hj)
                  have HLTM : Hid (∀ j, OwnM mb C j → j < wr.heap.size) := Lib.hid (fun j hj => hmay.lt j hj)
                  have HWR6 : Hid (W6.heap.size ≤ wr.heap.size) := Lib.hid (by have := hmay.lt mb (.inl rfl); have := HMB.out; omega)
                  have HWF := Lib.hid hwf
                  have HBX := Lib.hid (heap_alloc_last wr (.cells #[.int .i64 o.kind, .int .i64 o.sec, .int .i64 o.num, .slice A1 o.dat.length c1, .slice A2 o.lost.length c2] 31))
                  have HSEC := Lib.hid hok.2.1
                  have hWW := hch.size
                  have HSEPD : Hid (∀ g, Value.blk (.slice A1 o.dat.length c1) = some g → 0 < o.dat.length → ¬ OwnD p b sv g) := Lib.hid (fun g hg h0 hn => by have := src_lt hdd h0 (by decide) g hg; have := HOW1.out g hn; omega)
                  have hsplit := hwf.live.wrote o.sec o.dat
                  obtain ⟨x', hx'⟩ : ∃ x', (writeI x o.sec o.dat).1 = x' := ⟨_, rfl⟩
                  obtain ⟨r, hr⟩ : ∃ r, (writeI x o.sec o.dat).2 = r := ⟨_, rfl⟩
                  rw [hx'] at HWR HW2 hsplit
                  rw [hr] at HWR hsplit
                  have HSPL := Lib.hid hsplit
                  clear hx' hr hd hwf hmay hM hown hch ho ho0 hcells hdd hll hok hde hoe hu hsplit
                  go_wp2_with fail
                  refine HWR.out.mono ?_
                  rintro e W8 ⟨rfl, hd8, hc8⟩
                  have HD8 := Lib.hid hd8
                  have hmay8 := HMAY.out.chg hc8 (fun j hj hd => by have := HOWN.out j hj; have := HLTD.out j hd; omega)
                  have HC8 := Lib.hid (HCH.out.then hc8 (fun i hi => .inl (HOW1.out i hi)))
                  have hbx8 := hc8.heap HBX.out (fun h => by have := HLTW.out _ h; omega)
                  rcases HSPL.out with ⟨h0, rfl⟩ | ⟨rfl, hs0, hs1, hhas, hca⟩
                  · have h0' : (r == 0) = false := by rw [beq_eq_false_iff_ne]; exact h0
                    have HMAY8 := Lib.hid hmay8
                    clear hd8 hc8 hmay8 hbx8 HWR
                    go_wp2_with fail
                    exact ⟨⟨k + 1, m, x', C, M, by omega, by go_num, HD8.out, HW2.out, HMAY8.out, by omega, HM.out, HOWN.out, HC8.out⟩, by simp [intOf]; omega⟩
                  · rw [HWF.out.num] at hs1
                    have hms : M o.sec = some (mayL x o.sec) := by rw [HM.out, if_pos (by omega)]
                    obtain ⟨v, hCv⟩ : ∃ v, C o.sec = some v := by
                      cases hc : C o.sec with
                      | some v => exact ⟨v, rfl⟩
                      | none => rw [hmay8.non _ hc] at hms; cases hms
                    obtain ⟨_, _, l, hl1, hl2, hl3, hrow⟩ := hmay8.val _ v hCv
                    rw [hms] at hl1
                    injection hl1 with hl1
                    subst hl1
                    obtain ⟨AV, cv, rfl⟩ := own_shape hrow
                    have hcv : 1 ≤ cv := by
                      rcases hrow.2 with ⟨_, h0⟩ | ⟨g, cap, cur, he, _, _, h3, _⟩
                      · omega
                      · injection he with _ _ e3; omega
                    have hmayD := hmay8.up (Chg.refl (fun _ => False) W8).drew
                    have hrowD := own_chg hrow (Chg.refl (fun _ => False) W8).drew (fun _ _ h => h)
                    have hsl8 : SlB W8.drew (.slice A1 o.dat.length c1) o.dat := (Src.chg HDD.out hc8 HSEPD.out (by decide)).chg (Chg.refl (fun _ => False) W8).drew (fun _ _ _ h => h) (by decide)
                    have hst := sl_string hsl8
                    obtain ⟨s0, hs0'⟩ : ∃ s, strOfNums o.dat = s := ⟨_, rfl⟩
                    rw [hs0'] at hst
                    have hlk0 := look63 hmayD.map HSEC.out
                    have hlk1 := look63 (w := (W8.alloc (.cells #[.string s0] 9)).drew) ((hmay8.up ((Chg.refl (fun _ => False) W8).alloc (.cells #[.string s0] 9)).drew)).map HSEC.out
                    rw [hCv] at hlk0 hlk1
                    simp only [Option.getD_some] at hlk0 hlk1
                    have hsone := slice_one AV (mayL x o.sec).length cv hcv
                    have hfirst := own_first hrowD rfl hl2
                    have ht1 : ((mayL x o.sec).take 1).length = 1 := by simp [mayL]
                    have hnewl : (mayL x o.sec).take 1 ++ [o.dat] = mayL x' o.sec := by
                      unfold mayL
                      rw [hhas, hca]
                      simp [updI]
                    obtain ⟨A9, c9, W9, hrun, ho9, hc9, hb9⟩ := push_strV W8.drew 0 (.slice AV 1 cv) ((mayL x o.sec).take 1) (by rw [ht1]; exact hfirst) o.dat s0 hs0' (Nat.zero_le _) (by rw [ht1]; omega)
                    rw [hnewl] at hrun ho9 hb9
                    have hob : ∀ g, (Value.slice AV 1 cv).ownBlock = some g → (Value.slice AV (mayL x o.sec).length cv).ownBlock = some g := fun g hg => by cases AV with
                      | none => simp [Value.ownBlock] at hg
                      | some a => exact hg
                    have hcm9 : CacheAt W9 mb m C := hmayD.map.chg hc9 (fun hg => by
                      obtain ⟨es, cl, hb⟩ := hmayD.map.block
                      obtain ⟨cu, fu, hh⟩ := own_type hrowD mb (hob _ hg)
                      rw [hb] at hh; cases hh)
                    obtain ⟨W10, hup, hm10, hc10⟩ := store63 hcm9 (by omega) HSEC.out (.slice A9 (mayL x' o.sec).length c9)
                    have hmay10 := hmayD.put2 hc9 (i := o.sec) (fun g hg => ⟨_, hCv, hob g hg⟩) hc10 ⟨hs0, by omega⟩ hm10 (l := mayL x' o.sec) (mayL_len _ _).1 (mayL_len _ _).2 ho9 (fun g hg => by
                      rcases hb9 with e | ⟨g', e, hg'⟩
                      · exact .inl (by rw [← e]; exact hg)
                      · rw [e] at hg; injection hg with hg; subst hg; exact .inr hg')
                    have hvown : ∀ g, (Value.slice AV 1 cv).ownBlock = some g → W6.heap.size ≤ g ∧ g < wr.heap.size := fun g hg => ⟨HOWN.out g (.inr ⟨o.sec, _, hCv, hob g hg⟩), HLTM.out g (.inr ⟨o.sec, _, hCv, hob g hg⟩)⟩
                    have hbx8D : W8.drew.heap[wr.heap.size]? = some (.cells #[.int .i64 o.kind, .int .i64 o.sec, .int .i64 o.num, .slice A1 o.dat.length c1, .slice A2 o.lost.length c2] 31 (0, 0)) := hbx8
                    have hbx9 := hc9.heap hbx8D (fun hg => by have := (hvown _ hg).2; omega)
                    have hbx10 := hc10.heap hbx9 (fun e => by have := HLTM.out mb (.inl rfl); omega)
                    have hd10 := ((hd8.up (Chg.refl (fun _ => False) W8).drew).other hc9 (fun j hj hg => by have := (hvown j hg).1; have := HLTD.out j hj; omega) (fun j cur fr hg hh => by
                      obtain ⟨cu, fu, hh2⟩ := own_type hrowD j (hob j hg)
                      rw [hh] at hh2; cases hh2)).other hc10 (fun j hj e => by have := HOWN.out mb (.inl rfl); have := HLTD.out j hj; omega) (fun j cur fr e hh => by
                      obtain ⟨es, cl, hb⟩ := hcm9.block
                      rw [e, hb] at hh; cases hh)
                    have hsz8 := HC8.out.size
                    have hszr : wr.heap.size ≤ W8.drew.heap.size := by
                      have := (Array.getElem?_eq_some_iff.1 hbx8D).1
                      omega
                    have HREL : Hid (DskV W10 p b sv x' (os1.length + 1 + k + 1) ∧ MayAt W10 mb (m + 1) (upd C o.sec (some (.slice A9 (mayL x' o.sec).length c9))) (updM M o.sec (mayL x' o.sec)) ∧ (∀ j : Int, updM M o.sec (mayL x' o.sec) j = if 0 ≤ j ∧ j < 10 then some (mayL x' j) else none) ∧ (∀ j, OwnM mb (upd C o.sec (some (.slice A9 (mayL x' o.sec).length c9))) j → W6.heap.size ≤ j) ∧ Chg (fun i => w.heap.size ≤ i) w W10) := Lib.hid ⟨hd10, hmay10, fun j => by
                      unfold updM
                      by_cases hj : j = o.sec
                      · rw [if_pos hj, hj, if_pos (by omega)]
                      · rw [if_neg hj, HM.out]
                        unfold mayL
                        rw [hhas, hca]
                        simp [updI, hj], fun j hj => by
                      rcases hj with rfl | ⟨i', u, hu, hj⟩
                      · exact HOWN.out _ (.inl rfl)
                      · unfold upd at hu
                        split at hu
                        · injection hu with hu
                          subst hu
                          rcases hb9 with e | ⟨g', e, hg'⟩
                          · exact (hvown j (by rw [← e]; exact hj)).1
                          · rw [e] at hj; injection hj with hj; have := HWR6.out; omega
                        · exact HOWN.out j (.inr ⟨i', u, hu, hj⟩), ((HC8.out.then (Chg.refl (fun _ => False) W8).drew (fun _ h => h.elim)).then hc9 (fun j hj => .inl (by have := (hvown j hj).1; omega))).then hc10 (fun j hj => .inl (by rw [hj]; have := HOWN.out mb (.inl rfl); omega))⟩
                    have q1 := cell_of_row W8 wr.heap.size 1 _ _ _ hbx8
                    have q3 := cell_of_row W8 wr.heap.size 3 _ _ _ hbx8
                    have q1a := cell_of_row (W8.alloc (.cells #[.string s0] 9)) wr.heap.size 1 _ _ _ (((Chg.refl (fun _ => False) W8).alloc (.cells #[.string s0] 9)).heap hbx8 (fun h => h))
                    have q19 := cell_of_row W9 wr.heap.size 1 _ _ _ hbx9
                    have hrun2 : (Builtin.append_ #[51, 51] 51 #[.slice AV 1 cv, .slice (some ⟨W8.heap.size, 0, none⟩) 1 1]).run Try.prog (W8.alloc (.cells #[.string s0] 9)).drew = .ok (.slice A9 (mayL x' o.sec).length c9) W9 := hrun
                    have HRUN := Lib.hid hrun2
                    clear hrun hrun2 hmay8 hd8 hc8 hbx8 hbx8D hms hCv hl2 hl3 hrow hcv hmayD hrowD hsl8 hs0' hfirst ht1 hnewl ho9 hc9 hb9 hob hcm9 hm10 hc10 hmay10 hvown hbx9 hbx10 hd10 hhas hca HWR
                    go_wp2_with fail
                    go_region_law ((refine step_run_append (by rfl) _ _ 51 (by rfl) _ _ (by rfl) (by rfl) 51 (by rfl) HRUN.out ?_))
                    all_goals
                      go_wp2_with fail
                      exact ⟨⟨k + 1, m + 1, x', _, _, by omega, by go_num, HREL.out.1, HW2.out, HREL.out.2.1, by omega, HREL.out.2.2.1, HREL.out.2.2.2.1, HREL.out.2.2.2.2⟩, by simp [intOf]; omega⟩
                · obtain rfl : k = os2.length := by omega
                  have hl11 : SlI wr (.slice AZ zs.length cz) zs := src_below HZ.out (by decide) hch
                  have HCR := Lib.hid (vcrash wr p b sv x _ hd hwf.wf (.slice AZ zs.length cz) zs hl11 HZB.out (by omega) (fun g hg h0 hn => by have := src_lt HZ.out h0 (by decide) g hg; have := HOW1.out g hn; omega))
                  have HMAY := Lib.hid hmay
                  have HM := Lib.hid hM
                  have HOWN := Lib.hid hown
                  have HCH := Lib.hid hch
                  have HNX := Lib.hid hwf.num
                  have HWC := Lib.hid (hwf.crash zs)
                  have hm50 : m ≤ 1000000 := by omega
                  clear hd hwf hmay hM hown hch hl11 HD7 HMAY7 HM7 HOWN7 HC7
                  go_wp2_with fail
                  refine HCR.out.mono ?_
                  rintro e W11 ⟨⟨u11, rfl⟩, hd11, hc11⟩
                  have hmay11 := HMAY.out.chg hc11 (fun j hj hd => by have := HOWN.out j hj; have := HLTD.out j hd; omega)
                  have HD11 := Lib.hid hd11
                  have HC11 := Lib.hid (HCH.out.then hc11 (fun i hi => .inl (HOW1.out i hi)))
                  have HMAY11 := Lib.hid hmay11
                  obtain ⟨D, hD, hDv⟩ := hmay11.map
                  have HDV := Lib.hid hDv
                  have HDM := Lib.hid hD
                  clear hd11 hc11 hmay11 hD hDv HCR HMAY HCH
                  go_wp2_with (refine wpList_range_own W11 rfl _ 63 rfl 3 51 K3 Try.underlying63 RV mb m D rfl HDM.out ?_; intro w12 hr12 hg12 hz12)
                  obtain ⟨r, hr⟩ : ∃ r, r = W11.heap.size := ⟨_, rfl⟩
                  rw [← hr] at hr12 ⊢
                  have hu12 : Up W11 w12 := ((Chg.of_grownBy hg12).mono (fun i _ hi => by cases hi))
                  have HR12 := Lib.hid hr12
                  have HU12 := Lib.hid hu12
                  have HRR := Lib.hid hr
                  clear hr12 hg12 hz12 hu12 hr
                  simp only [Act.put, List.setIfInBounds_toArray, List.set_cons_zero, List.set_cons_succ]
                  go_loopw [116] (fun _ wr => ∃ (left : Lit → Bool) (cnt : Nat), wr.ranges Try.prog 3 RV mb r m D left cnt ∧ Chg (fun i => W11.heap.size ≤ i) W11 wr) (fun _ wr => wr.rangeLeft mb r)
                  case atStart => exact ⟨_, _, HR12.out, HU12.out.mono (fun _ _ h => h.elim)⟩
                  case round =>
                    rename World => wr
                    obtain ⟨left, cnt, hrg, hch⟩ := hrel
                    have hlf := hrg.left_eq
                    have HF : Hid (∀ (xk : Int) (c : Value) (kl : Lit) (y : DataW Value × List MemPlace), keyOf Try.prog 3 (.int .i64 xk) = some kl → RV c = some y → (∀ zd, D.atKey kl zd = y.1) → ∃ i : Nat, xk = i ∧ i < 10 ∧ C xk = some c) := Lib.hid (fun xk c kl y hkey hv hat => by
                      obtain ⟨x', hx', rfl, hwx⟩ := Maps.keyOf_int_inv Try.underlying3 hkey
                      injection hx' with _ hx'
                      subst hx'
                      have hb := bounds_i64 hwx
                      have hD' := (HDV.out xk hb).2
                      unfold RV at hv
                      simp only [Option.some.injEq] at hv
                      subst hv
                      have hC : C xk = some c := by
                        have h1 := (hD' (.held undef)).symm.trans (hat (.held undef))
                        have h2 := (hD' .nil).symm.trans (hat .nil)
                        cases hc : C xk with
                        | none => rw [hc] at h2; simp [asHeld] at h2
                        | some v => rw [hc] at h1; simp [asHeld] at h1; rw [h1]
                      obtain ⟨k1, k2, _⟩ := HMAY11.out.val xk c hC
                      exact ⟨xk.toNat, by omega, by omega, hC⟩)
                    have HRG := Lib.hid hrg
                    have HCHR := Lib.hid hch
                    clear hrg hch
                    go_wp2_with (refine wpList_next_ranges wr rfl (.tmp 115) rfl 3 K3 RV (Value.int .i64) (fun v => v) (fun key kl hk => by obtain ⟨x, rfl, _⟩ := Maps.keyOf_int_inv Try.underlying3 hk; exact ⟨x, rfl⟩) (fun v y _ => ⟨v, rfl⟩) mb r m D left cnt rfl HRG.out (fun hc0 hleft => ?_) (fun xk c kl y w13 cnt' hkey hlk hv hat hrg hlt hgr hsz hen => ?_); rotate_left; obtain ⟨i, rfl, hi10, hCi⟩ := HF.out xk c kl y hkey hv hat; rotate_left)
                    · clear hc0 hleft
                      have hdw := HD11.out.up (HCHR.out.below_none (fun i hi h => by omega) |> up_below)
                      have hcd := vcached wr p b sv (crashI x zs) _ hdw (by omega) HWC.out.wf.num
                      have HCD := Lib.hid hcd
                      have HC12 := Lib.hid (HC11.out.then HCHR.out (fun i hi => .inr (Nat.le_trans HC11.out.size hi)))
                      clear hdw hcd
                      refine HCD.out.mono ?_
                      rintro e w15 hp
                      obtain ⟨v15, rfl, hrow15, hb15⟩ := hp
                      have hcn : cachedN (crashI x zs) (crashI x zs).has.length = [] := by
                        refine List.eq_nil_iff_forall_not_mem.2 (fun a ha => ?_)
                        rw [cachedN_mem] at ha
                        have : (crashI x zs).ca a = none := rfl
                        rw [this] at ha
                        simp at ha
                      rw [hcn] at hrow15
                      obtain ⟨A15, c15, rfl⟩ := own_shape hrow15
                      have HC15 := Lib.hid (HC12.out.then (up_below hb15) (fun _ h => h.elim))
                      clear hrow15 hb15 hcn
                      dsimp only [List.length_nil]
                      have HA := Lib.hid (awake_any w15)
                      go_wp2_with (go_at_call 13; refine HA.out.mono ?_; rintro e w' ⟨rfl, hb⟩)
                      go_ret
                      exact ⟨rfl, (HC15.out.then (up_below hb) (fun _ h => h.elim)).below (Nat.le_refl _) (fun _ h => h)⟩
                    · have hgc := Chg.of_grownBy hgr
                      have hch13 : Chg (fun i => W11.heap.size ≤ i) W11 w13 := HCHR.out.then hgc (fun i hi => .inl (by injection hi with hi; have := HRR.out; omega))
                      have hd13 := HD11.out.up (hch13.below_none (fun i hi h => by omega) |> up_below)
                      have hmay13 := HMAY11.out.up (hch13.below_none (fun i hi h => by omega) |> up_below)
                      obtain ⟨_, _, l, hl1, hl2, hl3, hrowl⟩ := hmay13.val _ c hCi
                      rw [HM.out, if_pos (by omega)] at hl1
                      injection hl1 with hl1
                      obtain ⟨AL, cl, rfl⟩ := own_shape hrowl
                      have hrd := vread w13 p b sv (crashI x zs) _ hd13 HWC.out.wf (i : Int) (by unfold I64; omega)
                      rw [HWC.out.live.read i (by rw [HWC.out.num]; omega)] at hrd
                      dsimp only at hrd
                      have hin : nowI (crashI x zs) i ∈ l := by rw [← hl1]; exact mayL_has x zs i (by rw [HNX.out]; omega)
                      have HIN := Lib.hid hin
                      have HRD := Lib.hid hrd
                      have HROWL := Lib.hid hrowl
                      have HRG13 := Lib.hid hrg
                      have HCH13 := Lib.hid hch13
                      have HLT := Lib.hid hlt
                      clear hgc hch13 hd13 hmay13 hl1 hrowl hrd hin hrg hlt hgr hsz hkey hlk hv hat
                      refine HRD.out.mono ?_
                      rintro e w14 ⟨va, rfl, hva, hba⟩
                      have hst := sl_string (slb_of hva)
                      obtain ⟨s0, hs0⟩ : ∃ s, strOfNums (nowI (crashI x zs) i) = s := ⟨_, rfl⟩
                      rw [hs0] at hst
                      have hgb : w13.grownBy w14 none := ⟨hba.os, hba.tape, hba.output, hba.size, fun i hi _ => hba.block i hi⟩
                      have HRG14 := Lib.hid (HRG13.out.kept hgb (by simp) (by simp))
                      have HCH14 := Lib.hid (HCH13.out.then (up_below hba) (fun _ h => h.elim))
                      have HROW14 := Lib.hid (own_chg HROWL.out (up_below hba) (fun _ _ h => h))
                      have HS0 := Lib.hid hs0
                      clear hva hba hgb HRD hs0 hen
                      go_wp2_with fail
                      go_loopw [20, 129] (fun tv t wr => ∃ (j : Nat) (tb : Bool), j ≤ l.length ∧ t = .int .i64 j ∧ tv = .bool tb ∧ (∀ q, q < j → l.getD q [] = nowI (crashI x zs) i → tb = true) ∧ wr = w14) (fun _ t _ => l.length - (intOf t).toNat)
                      case atStart => exact ⟨0, false, by omega, rfl, rfl, fun q hq => by omega, rfl⟩
                      case round =>
                        obtain ⟨j, tb, hj, rfl, rfl, hall, rfl⟩ := hrel
                        rename World => w14
                        by_cases hj2 : (j : Int) < l.length
                        · obtain ⟨gl, rfl⟩ : ∃ gl, AL = some ⟨gl, 0, none⟩ := by
                            rcases HROW14.out.2 with ⟨_, hz⟩ | ⟨g, cap, cur, he, _⟩
                            · omega
                            · injection he with e1; exact ⟨g, e1⟩
                          have hce := World.ownsRow.cells HROW14.out rfl j _ (strV_at (show j < l.length by omega))
                          rw [addr_add, Nat.zero_add] at hce
                          have HALL := Lib.hid hall
                          clear hall
                          cases tb with
                          | true =>
                            go_wp2_with fail
                            exact ⟨⟨j + 1, true, by omega, by go_num, rfl, fun _ _ _ => rfl, trivial⟩, by simp [intOf]; omega⟩
                          | false =>
                            cases hq : ((strOfNums (l.getD j [])).toList == s0.toList) with
                            | true =>
                              obtain ⟨s1, hs1⟩ : ∃ s, strOfNums (l.getD j []) = s := ⟨_, rfl⟩
                              rw [hs1] at hce hq
                              clear hs1
                              go_wp2_with fail
                              exact ⟨⟨j + 1, true, by omega, by go_num, rfl, fun _ _ _ => rfl, trivial⟩, by simp [intOf]; omega⟩
                            | false =>
                              have HNE : Hid (l.getD j [] ≠ nowI (crashI x zs) i) := Lib.hid (fun e => by
                                rw [e, HS0.out] at hq
                                simp at hq)
                              obtain ⟨s1, hs1⟩ : ∃ s, strOfNums (l.getD j []) = s := ⟨_, rfl⟩
                              rw [hs1] at hce hq
                              clear hs1
                              go_wp2_with fail
                              exact ⟨⟨j + 1, false, by omega, by go_num, rfl, fun q hq2 hq3 => by
                                by_cases e : q = j
                                · subst e; exact absurd hq3 HNE.out
                                · exact HALL.out q (by omega) hq3, trivial⟩, by simp [intOf]; omega⟩
                        · have hje : j = l.length := by omega
                          have htb : tb = true := by
                            obtain ⟨q, hq1, hq2⟩ := List.mem_iff_getElem.1 HIN.out
                            exact hall q (by omega) (by rw [List.getD_eq_getElem?_getD, List.getElem?_eq_getElem hq1]; exact hq2)
                          subst htb
                          clear hall
                          have HMS : Hid (w14.rangeLeft mb r < wr.rangeLeft mb r) := Lib.hid (by rw [HRG14.out.left_eq, hlf]; exact HLT.out)
                          go_wp2_with fail
                          exact ⟨⟨_, cnt', HRG14.out, HCH14.out⟩, HMS.out⟩
end Go.Proofs.Ytkndnlhlglgmfaa
