/-
  Secrets, keys and signatures of one leaf; wots.Public and wots.Sign, walked.
-/
import Derived.Test.YtaahffminoekfaaDoorY7
namespace Go.Proofs.YtaahffminoekfaaDoor
open Go.RowKit
theorem right76_any (a : Int) (w : World) : Calls Tryd.prog 76 #[.int .i64 a] w (fun e w' => e = .returned (.bool (decide (0 ≤ a) && decide (a ≤ 2147483647))) ∧ w' = w) := by
  go_enter Tryd.func76, Tryd.ntmps76
  by_cases h1 : 0 ≤ a
  · by_cases h2 : a ≤ 2147483647
    · go_wp2
      go_ret
      exact ⟨by simp [h1, h2], rfl⟩
    · go_wp2
      go_ret
      exact ⟨by simp [h1, h2], rfl⟩
  · go_wp2
    go_ret
    exact ⟨by simp [show decide (0 ≤ a) = false by simpa using h1], rfl⟩
/-- A secret's bytes. -/
def secI (h : List Int) (a j : Int) : List Int := shaI (3 :: (h ++ num4 a ++ num4 j))
theorem secI_len (h : List Int) (a j : Int) : (secI h a j).length = 32 := hash_size _
theorem secI_bytes (h : List Int) (a j : Int) : Bytes (secI h a j) := shaI_bytes _
attribute [irreducible] secI
theorem secI_eq (h : List Int) (a j : Int) : shaI (3 :: (h ++ num4 a ++ num4 j)) = secI h a j := by rw [secI]
theorem secret2_any (h : List Int) (a j : Int) (w : World) (hl : h.length = 32) (hb : Bytes h) (ha : I64 a) (hj : I64 j) (hla : Laid w) : Calls Tryd.prog 43 #[hashV h, .int .i64 a, .int .i64 j] w (HashPost (secI h a j) w) := by
  have := secret_any h a j w hl hb ha.1 ha.2 hj.1 hj.2 hla
  unfold SumPost at this
  rw [secI_eq] at this
  exact this
/-- The ends of a leaf's chains. -/
def pubI (h : List Int) (a : Int) (k : Nat) : List (List Int) := (List.range k).map fun (j : Nat) => walkI (secI h a j) j 0 15
theorem pubI_succ (h : List Int) (a : Int) (k : Nat) : pubI h a (k + 1) = pubI h a k ++ [walkI (secI h a k) k 0 15] := by
  unfold pubI; rw [List.range_succ, List.map_append]; rfl
theorem pubI_len (h : List Int) (a : Int) (k : Nat) : (pubI h a k).length = k := by simp [pubI]
/-- A signature's parts. -/
def sigI (h : List Int) (a : Int) (m : List Int) (k : Nat) : List (List Int) := (List.range k).map fun (j : Nat) => walkI (secI h a j) j 0 ((digitsI m).getD j 0).toNat
theorem sigI_succ (h : List Int) (a : Int) (m : List Int) (k : Nat) : sigI h a m (k + 1) = sigI h a m k ++ [walkI (secI h a k) k 0 ((digitsI m).getD k 0).toNat] := by
  unfold sigI; rw [List.range_succ, List.map_append]; rfl
theorem sigI_len (h : List Int) (a : Int) (m : List Int) (k : Nat) : (sigI h a m k).length = k := by simp [sigI]
theorem sigI_at (h : List Int) (a : Int) (m : List Int) (k r : Nat) (hr : r < k) : (sigI h a m k).getD r [] = walkI (secI h a r) r 0 ((digitsI m).getD r 0).toNat := by
  unfold sigI; simp [List.getD_eq_getElem?_getD, hr]
theorem pubI_at (h : List Int) (a : Int) (k r : Nat) (hr : r < k) : (pubI h a k).getD r [] = walkI (secI h a r) r 0 15 := by
  unfold pubI; simp [List.getD_eq_getElem?_getD, hr]
theorem pubI_each (h : List Int) (a : Int) (k : Nat) : ∀ r, r < k → ((pubI h a k).getD r []).length = 32 ∧ Bytes ((pubI h a k).getD r []) := by
  intro r hr
  rw [pubI_at _ _ _ _ hr]
  exact ⟨walkI_len _ _ _ _ (secI_len _ _ _), walkI_bytes _ _ _ _ (secI_bytes _ _ _)⟩
theorem sigI_each (h : List Int) (a : Int) (m : List Int) (k : Nat) : ∀ r, r < k → ((sigI h a m k).getD r []).length = 32 ∧ Bytes ((sigI h a m k).getD r []) := by
  intro r hr
  rw [sigI_at _ _ _ _ _ hr]
  exact ⟨walkI_len _ _ _ _ (secI_len _ _ _), walkI_bytes _ _ _ _ (secI_bytes _ _ _)⟩
theorem rec_sig (h : List Int) (a : Int) (m : List Int) (hm : Bytes m) (k : Nat) (hk : k ≤ 67) : recI m (sigI h a m k) k = pubI h a k := by
  unfold recI pubI
  apply List.map_congr_left
  intro j hj
  have hj := List.mem_range.1 hj
  have bd := digit_bd m hm j (by omega)
  rw [sigI_at _ _ _ _ _ hj]
  obtain ⟨n, hn⟩ : ∃ n : Nat, (digitsI m).getD j 0 = n := ⟨((digitsI m).getD j 0).toNat, by omega⟩
  rw [hn] at bd ⊢
  have h1 := walkI_add (secI h a j) j 0 n (15 - n)
  rw [show n + (15 - n) = 15 by omega, Int.zero_add] at h1
  rw [h1, Int.toNat_natCast, show ((15 : Int) - (n : Int)).toNat = 15 - n by omega]
def inRange (a : Int) : Prop := 0 ≤ a ∧ a ≤ 2147483647
/-- What Public answers. -/
def PubPost (h : List Int) (a : Int) (w : World) (e : Ending) (w' : World) : Prop :=
  Below w.heap.size w w' ∧ ((inRange a ∧ e = .returned (.tuple #[hashV (shaI (4 :: (pubI h a 67).flatten)), .int .i64 0])) ∨ (¬ inRange a ∧ e = .returned (.tuple #[hashV zeroH, .int .i64 11])))
/-- What Sign answers. -/
def SgnPost (h : List Int) (a : Int) (m : List Int) (w : World) (e : Ending) (w' : World) : Prop :=
  Below w.heap.size w w' ∧ ((inRange a ∧ ∃ B c, e = .returned (.tuple #[.slice B 67 c, .int .i64 0]) ∧ w'.ownsRow w.heap.size 25 32 (.slice B 67 c) 67 (u8s (sigI h a m 67).flatten)) ∨ (¬ inRange a ∧ e = .returned (.tuple #[.slice none 0 0, .int .i64 11])))
set_option maxRecDepth 100000 in
set_option maxHeartbeats 4000000 in
theorem key_any (h : List Int) (a : Int) (w : World) (hl : h.length = 32) (hb : Bytes h) (ha : I64 a) (hla : Laid w) :
    Calls Tryd.prog 55 #[hashV h, .int .i64 a] w (PubPost h a w) := by
  have hl2 := hla.lt
  obtain ⟨cx, hcx, hux, _, _, hsz, hs32⟩ := hash_parts h hl
  rw [hcx]
  obtain ⟨W0, hW0⟩ : ∃ W0, W0 = (w.alloc (.cells cx 25)).alloc (.cells ((List.replicate 32 (Value.int .u8 0)).toArray) 25) := ⟨_, rfl⟩
  have HR0 : Hid (W0.heap[w.heap.size + 1]? = some (.cells ((List.replicate 32 (Value.int .u8 0)).toArray) 25 (0, 0))) := Lib.hid (by
    rw [hW0]; have := heap_alloc_last (w.alloc (.cells cx 25)) (.cells ((List.replicate 32 (Value.int .u8 0)).toArray) 25); rwa [World.size_alloc] at this)
  have HX0 : Hid (W0.heap[w.heap.size]? = some (.cells cx 25 (0, 0))) := Lib.hid (by rw [hW0]; exact (Below.heap_alloc _ _ _ (by simp)).trans (heap_alloc_last _ _))
  have HC0 : Hid (Chg (fun i => w.heap.size ≤ i) w W0) := Lib.hid (by rw [hW0]; exact ((Chg.refl _ w).alloc _).alloc _)
  have HWL : Hid (W0 = (w.alloc (.cells cx 25)).alloc (.cells (#[.int .u8 0, .int .u8 0, .int .u8 0, .int .u8 0, .int .u8 0, .int .u8 0, .int .u8 0, .int .u8 0, .int .u8 0, .int .u8 0, .int .u8 0, .int .u8 0, .int .u8 0, .int .u8 0, .int .u8 0, .int .u8 0, .int .u8 0, .int .u8 0, .int .u8 0, .int .u8 0, .int .u8 0, .int .u8 0, .int .u8 0, .int .u8 0, .int .u8 0, .int .u8 0, .int .u8 0, .int .u8 0, .int .u8 0, .int .u8 0, .int .u8 0, .int .u8 0]) 25)) := Lib.hid (by rw [hW0]; rfl)
  have hwz0 : w.heap.size + 1 < W0.heap.size := (Array.getElem?_eq_some_iff.1 HR0.out).1
  have HCX := Lib.hid hcx
  have HS25 : Hid ((Tryd.prog.info? 25).map (·.size) = some 32) := Lib.hid (by rw [hsz, hs32])
  have HSX := Lib.hid hsz
  have HB := Lib.hid hb
  have HL := Lib.hid hl
  have HA := Lib.hid ha
  have HLA := Lib.hid hla
  have HRI := Lib.hid (right76_any a W0)
  clear hcx hux hl hb hla hsz hs32 hW0 ha
  by_cases hin : inRange a
  case neg =>
    have hdn : (decide (0 ≤ a) && decide (a ≤ 2147483647)) = false := by rw [Bool.and_eq_false_iff]; unfold inRange at hin; simp; omega
    rw [hdn] at HRI
    have HIN := Lib.hid hin
    have LS : Hid ((Tryd.prog.info? 25).map (·.size) = some (Array.size (#[.int .u8 0, .int .u8 0, .int .u8 0, .int .u8 0, .int .u8 0, .int .u8 0, .int .u8 0, .int .u8 0, .int .u8 0, .int .u8 0, .int .u8 0, .int .u8 0, .int .u8 0, .int .u8 0, .int .u8 0, .int .u8 0, .int .u8 0, .int .u8 0, .int .u8 0, .int .u8 0, .int .u8 0, .int .u8 0, .int .u8 0, .int .u8 0, .int .u8 0, .int .u8 0, .int .u8 0, .int .u8 0, .int .u8 0, .int .u8 0, .int .u8 0, .int .u8 0] : Array Value))) := Lib.hid (by rw [HS25.out]; rfl)
    have LO : Hid (((List.replicate 32 (Value.int .u8 0)).toArray).size = Array.size (#[.int .u8 0, .int .u8 0, .int .u8 0, .int .u8 0, .int .u8 0, .int .u8 0, .int .u8 0, .int .u8 0, .int .u8 0, .int .u8 0, .int .u8 0, .int .u8 0, .int .u8 0, .int .u8 0, .int .u8 0, .int .u8 0, .int .u8 0, .int .u8 0, .int .u8 0, .int .u8 0, .int .u8 0, .int .u8 0, .int .u8 0, .int .u8 0, .int .u8 0, .int .u8 0, .int .u8 0, .int .u8 0, .int .u8 0, .int .u8 0, .int .u8 0, .int .u8 0] : Array Value)) := Lib.hid (by kernel_rfl)
    have L1 : Hid (Array.all (#[.int .u8 0, .int .u8 0, .int .u8 0, .int .u8 0, .int .u8 0, .int .u8 0, .int .u8 0, .int .u8 0, .int .u8 0, .int .u8 0, .int .u8 0, .int .u8 0, .int .u8 0, .int .u8 0, .int .u8 0, .int .u8 0, .int .u8 0, .int .u8 0, .int .u8 0, .int .u8 0, .int .u8 0, .int .u8 0, .int .u8 0, .int .u8 0, .int .u8 0, .int .u8 0, .int .u8 0, .int .u8 0, .int .u8 0, .int .u8 0, .int .u8 0, .int .u8 0] : Array Value) (·.oneCell') = true) := Lib.hid (by kernel_rfl)
    clear hin hdn
    go_enter Tryd.func55, Tryd.ntmps55
    go_wp2_with fail
    rw [← HWL.out]
    refine HRI.out.mono ?_
    rintro e W1 ⟨rfl, rfl⟩
    go_wp2_with (refine wpList_store_row rfl 25 (.tmp 4) (.tmp 11) rfl (w.heap.size + 1) #[.int .u8 0, .int .u8 0, .int .u8 0, .int .u8 0, .int .u8 0, .int .u8 0, .int .u8 0, .int .u8 0, .int .u8 0, .int .u8 0, .int .u8 0, .int .u8 0, .int .u8 0, .int .u8 0, .int .u8 0, .int .u8 0, .int .u8 0, .int .u8 0, .int .u8 0, .int .u8 0, .int .u8 0, .int .u8 0, .int .u8 0, .int .u8 0, .int .u8 0, .int .u8 0, .int .u8 0, .int .u8 0, .int .u8 0, .int .u8 0, .int .u8 0, .int .u8 0] (by rfl) (by rfl) 25 _ HR0.out LS.out LO.out L1.out ?_)
    refine bodyPost_ret (v := .tuple #[.agg #[.int .u8 0, .int .u8 0, .int .u8 0, .int .u8 0, .int .u8 0, .int .u8 0, .int .u8 0, .int .u8 0, .int .u8 0, .int .u8 0, .int .u8 0, .int .u8 0, .int .u8 0, .int .u8 0, .int .u8 0, .int .u8 0, .int .u8 0, .int .u8 0, .int .u8 0, .int .u8 0, .int .u8 0, .int .u8 0, .int .u8 0, .int .u8 0, .int .u8 0, .int .u8 0, .int .u8 0, .int .u8 0, .int .u8 0, .int .u8 0, .int .u8 0, .int .u8 0], .int .i64 11]) (results_row_tmp rfl _ _ (w.heap.size + 1) 25 _ (0, 0) _ (by rfl) (setRow_same _ (w.heap.size + 1) #[.int .u8 0, .int .u8 0, .int .u8 0, .int .u8 0, .int .u8 0, .int .u8 0, .int .u8 0, .int .u8 0, .int .u8 0, .int .u8 0, .int .u8 0, .int .u8 0, .int .u8 0, .int .u8 0, .int .u8 0, .int .u8 0, .int .u8 0, .int .u8 0, .int .u8 0, .int .u8 0, .int .u8 0, .int .u8 0, .int .u8 0, .int .u8 0, .int .u8 0, .int .u8 0, .int .u8 0, .int .u8 0, .int .u8 0, .int .u8 0, .int .u8 0, .int .u8 0] _ 25 (0, 0) HR0.out) _ (by rfl) Tryd.underlying25 rfl (by rw [HS25.out]; rfl)) rfl ?_
    exact ⟨(HC0.out.setRow (w.heap.size + 1) (.inl (by omega)) _).below (Nat.le_refl _) (fun _ h => h), .inr ⟨HIN.out, by rw [← zero_agg]⟩⟩
  case pos =>
    have hdn : (decide (0 ≤ a) && decide (a ≤ 2147483647)) = true := by unfold inRange at hin; simp; omega
    rw [hdn] at HRI
    have HIN := Lib.hid hin
    clear hin hdn
    go_enter Tryd.func55, Tryd.ntmps55
    go_wp2_with fail
    rw [← HWL.out]
    refine HRI.out.mono ?_
    rintro e W1 ⟨rfl, rfl⟩
    rename World => W1
    have HXR := Lib.hid HX0.out
    have HLA1 := Lib.hid (HLA.out.chg HC0.out (by omega) (by omega))
    clear HX0 HRI HWL HLA
    go_wp2_with fail
    go_loopw [6, 12] (fun o i wr => ∃ (k c : Nat) (B : Option Addr), k ≤ 67 ∧ i = .int .i64 k ∧ o = .slice B k c ∧ wr.ownsRow W1.heap.size 25 32 (.slice B k c) k (u8s (pubI h a k).flatten) ∧ Up W1 wr) (fun _ i _ => 67 - (intOf i).toNat)
    case atStart => exact ⟨0, 0, none, by omega, rfl, rfl, World.ownsRow_nil _ _ _ _, Chg.refl _ _⟩
    case round =>
      rename World => wo
      obtain ⟨k, c, B, hk, rfl, rfl, ho, hu⟩ := hrel
      by_cases hk2 : (k : Int) < 67
      · have hsec := secret2_any h a k wo HL.out HB.out HA.out ⟨by omega, by omega⟩ (HLA1.out.up hu)
        have hrs := pubI_succ h a k
        have hxs := secI_len h a k
        have hxb := secI_bytes h a k
        obtain ⟨s, hs⟩ : ∃ s, secI h a k = s := ⟨_, rfl⟩
        rw [hs] at hsec hxs hxb hrs
        obtain ⟨cs, hcs, _, _, _, _, _⟩ := hash_parts s hxs
        unfold HashPost at hsec
        rw [hcs, HCX.out] at hsec
        have HSEC := Lib.hid hsec

        have hxl := walkI_len s k 0 15 hxs
        obtain ⟨x, hx⟩ : ∃ x, walkI s k 0 15 = x := ⟨_, rfl⟩
        rw [hx] at hxl hrs
        obtain ⟨cy, hcy, huy, _, _, _, _⟩ := hash_parts x hxl
        have HRX := Lib.hid (hu.heap HXR.out (fun h => h))
        have HXS := Lib.hid hxs
        have HXB := Lib.hid hxb
        have HCS := Lib.hid hcs
        have HCY := Lib.hid hcy
        have HXX := Lib.hid hx
        have HXL := Lib.hid hxl
        have HUY := Lib.hid huy
        have HRS := Lib.hid hrs
        have HO := Lib.hid ho
        have HU := Lib.hid hu
        have huz := hu.size
        clear hsec hxs hxb hs hcs hx hxl hcy huy hrs ho hu
        go_wp2_with (refine wpList_load_row rfl 25 (.tmp 2) rfl w.heap.size (by rfl) 25 cx (0, 0) _ HRX.out Tryd.underlying25 rfl HSX.out ?_)
        refine HSEC.out.mono ?_
        rintro e W2 ⟨rfl, hb2⟩
        have hu2 : Up wo W2 := up_below hb2
        have hcall := walk_any s k 0 15 W2 HXS.out HXB.out ⟨by omega, by omega⟩ ⟨by omega, by omega⟩ ⟨by omega, by omega⟩ (HLA1.out.up (HU.out.trans hu2))
        unfold HashPost at hcall
        rw [HCS.out, show ((15 : Int) - 0).toNat = 15 by rfl, HXX.out, HCY.out] at hcall
        have HCALL := Lib.hid hcall
        clear hcall hb2 HSEC
        go_wp2_with fail
        refine HCALL.out.mono ?_
        rintro e W3 ⟨rfl, hb3⟩
        have hu3 : Up wo W3 := hu2.trans (up_below hb3)
        obtain ⟨A2, c2, w2, hrun, ho2, hc2⟩ := push_hash W3 W1.heap.size _ k (pubI h a k) (own_up HO.out hu3) x cy HUY.out HXL.out (by omega) (by have := hu3.size; omega)
        have HRUN := Lib.hid hrun
        have HO2 := Lib.hid ho2
        have HU2 := Lib.hid ((HU.out.trans hu3).then hc2 (fun i hi => .inr (by have := ((own_up HO.out hu3).lt i hi).1; omega)))
        clear hb3 hu2 hu3 hrun ho2 hc2 HCALL
        go_wp2_with (first
          | refine wpList_build_hash rfl (.tmp 21) rfl x cy HUY.out HXL.out (by rfl) ?_
          | (at_builtin; refine wpList_run_append rfl _ _ 49 rfl _ _ rfl rfl 49 rfl HRUN.out ?_))
        go_roundw
        case rel =>
          refine ⟨k + 1, c2, A2, by omega, by go_num, rfl, ?_, HU2.out⟩
          rw [HRS.out]; exact HO2.out
        case measure => simp [intOf]; omega
      · obtain rfl : k = 67 := by omega
        have hslh : SlH wo (.slice B 67 c) (pubI h a 67) := by
          have h2 := own_slh (w := wo) (base := W1.heap.size) (c := c) (B := B) (hs := pubI h a 67) (by rw [pubI_len]; exact ho) (by rw [pubI_len]; exact pubI_each h a 67)
          rwa [pubI_len] at h2
        have hpub := public_any _ _ wo hslh (by rw [pubI_len]; omega) (HLA1.out.up hu)
        obtain ⟨hc, hhc, _, hone, hold, hsz, _⟩ := hash_parts _ (hash_size (4 :: (pubI h a 67).flatten))
        unfold SumPost at hpub
        rw [hhc] at hpub
        have HPUB := Lib.hid hpub
        have HSZ := Lib.hid hsz
        have HON := Lib.hid hone
        have HOL := Lib.hid hold
        have HHC := Lib.hid hhc
        have H3 := Lib.hid (hu.heap HR0.out (fun h => h))
        have HC3 := Lib.hid (HC0.out.then hu (fun _ h => h.elim))
        clear hslh hpub hsz hone hold hhc ho hu HR0 HC0
        go_wp2_with fail
        refine HPUB.out.mono ?_
        rintro e W2 ⟨rfl, hb2⟩
        have hu2 : Up wo W2 := up_below hb2
        have H4 := Lib.hid (hu2.heap H3.out (fun h => h))
        have HC4 := Lib.hid (HC3.out.then hu2 (fun _ h => h.elim))
        clear hb2 hu2 H3 HC3 HPUB
        go_wp2_with (refine wpList_store_row rfl 25 (.tmp 4) (.tmp 26) rfl (w.heap.size + 1) hc (by rfl) (by rfl) 25 _ H4.out HSZ.out HOL.out HON.out ?_)
        refine bodyPost_ret (v := .tuple #[.agg hc, .int .i64 0]) (results_row_tmp rfl _ _ (w.heap.size + 1) 25 _ (0, 0) _ (by rfl) (setRow_same W2 (w.heap.size + 1) hc _ 25 (0, 0) H4.out) _ (by rfl) Tryd.underlying25 rfl HSZ.out) rfl ?_
        exact ⟨(HC4.out.setRow (w.heap.size + 1) (.inl (by omega)) _).below (Nat.le_refl _) (fun _ h => h), .inl ⟨HIN.out, by rw [HHC.out]⟩⟩
set_option maxRecDepth 100000 in
set_option maxHeartbeats 4000000 in
theorem sign_any (h : List Int) (a : Int) (m : List Int) (w : World) (hl : h.length = 32) (hb : Bytes h) (ha : I64 a) (hlm : m.length = 32) (hbm : Bytes m) (hla : Laid w) :
    Calls Tryd.prog 56 #[hashV h, .int .i64 a, hashV m] w (SgnPost h a m w) := by
  have hl2 := hla.lt
  obtain ⟨cx, hcx, hux, _, _, hsz, hs32⟩ := hash_parts h hl
  obtain ⟨cm, hcm, hum, _, _, hszm, _⟩ := hash_parts m hlm
  rw [hcx, hcm]
  obtain ⟨W0, hW0⟩ : ∃ W0, W0 = (w.alloc (.cells cx 25)).alloc (.cells cm 25) := ⟨_, rfl⟩
  have HR0 : Hid (W0.heap[w.heap.size + 1]? = some (.cells cm 25 (0, 0))) := Lib.hid (by
    rw [hW0]; have := heap_alloc_last (w.alloc (.cells cx 25)) (.cells cm 25); rwa [World.size_alloc] at this)
  have HX0 : Hid (W0.heap[w.heap.size]? = some (.cells cx 25 (0, 0))) := Lib.hid (by rw [hW0]; exact (Below.heap_alloc _ _ _ (by simp)).trans (heap_alloc_last _ _))
  have HC0 : Hid (Up w W0) := Lib.hid (by rw [hW0]; exact ((Chg.refl _ w).alloc _).alloc _)
  have HWL := Lib.hid hW0
  have HCX := Lib.hid hcx
  have HCM := Lib.hid hcm
  have HSM := Lib.hid hszm
  have HSX := Lib.hid hsz
  have HB := Lib.hid hb
  have HL := Lib.hid hl
  have HA := Lib.hid ha
  have HBM := Lib.hid hbm
  have HLA := Lib.hid (hla.up HC0.out)
  have HRI := Lib.hid (right76_any a W0)
  have hdig := digits_any m hlm hbm
  rw [hcm] at hdig
  have HDIG := Lib.hid hdig
  have hwz0 := HC0.out.size
  clear hcx hux hl hb hla hsz hs32 hW0 ha hcm hum hszm hlm hbm hdig
  by_cases hin : inRange a
  case neg =>
    have hdn : (decide (0 ≤ a) && decide (a ≤ 2147483647)) = false := by rw [Bool.and_eq_false_iff]; unfold inRange at hin; simp; omega
    rw [hdn] at HRI
    have HIN := Lib.hid hin
    clear hin hdn
    go_enter Tryd.func56, Tryd.ntmps56
    go_wp2_with fail
    rw [← HWL.out]
    refine HRI.out.mono ?_
    rintro e W1 ⟨rfl, rfl⟩
    go_wp2
    refine bodyPost_ret (results_tmp2 rfl _ _ _) rfl ?_
    exact ⟨HC0.out.below_none (fun _ _ h => h), .inr ⟨HIN.out, rfl⟩⟩
  case pos =>
    have hdn : (decide (0 ≤ a) && decide (a ≤ 2147483647)) = true := by unfold inRange at hin; simp; omega
    rw [hdn] at HRI
    have HIN := Lib.hid hin
    clear hin hdn
    go_enter Tryd.func56, Tryd.ntmps56
    go_wp2_with fail
    rw [← HWL.out]
    refine HRI.out.mono ?_
    rintro e W1 ⟨rfl, rfl⟩
    rename World => V1
    clear HRI HWL
    go_wp2_with (refine wpList_load_row rfl 25 (.tmp 5) rfl (w.heap.size + 1) (by rfl) 25 cm (0, 0) _ HR0.out Tryd.underlying25 rfl HSM.out ?_)
    refine (HDIG.out _).mono ?_
    rintro e W1 ⟨v, rfl, hod, hbd⟩
    obtain ⟨gd, cd, rfl, hd1, hd2, hcd⟩ := DigV.of hod
    have hu1 : Up V1 W1 := up_below hbd
    have HXR := Lib.hid (hu1.heap HX0.out (fun h => h))
    have HLA1 := Lib.hid (HLA.out.up hu1)
    have HD1 := Lib.hid hcd
    have HC1 := Lib.hid (HC0.out.trans hu1)
    have hwz1 := hu1.size
    clear hod hbd hu1 hcd HDIG HX0 HR0 HC0 HLA
    go_wp2_with fail
    go_loopw [8, 17] (fun o i wr => ∃ (k c : Nat) (B : Option Addr), k ≤ 67 ∧ i = .int .i64 k ∧ o = .slice B k c ∧ wr.ownsRow W1.heap.size 25 32 (.slice B k c) k (u8s (sigI h a m k).flatten) ∧ Up W1 wr) (fun _ i _ => 67 - (intOf i).toNat)
    case atStart => exact ⟨0, 0, none, by omega, rfl, rfl, World.ownsRow_nil _ _ _ _, Chg.refl _ _⟩
    case round =>
      rename World => wo
      obtain ⟨k, c, B, hk, rfl, rfl, ho, hu⟩ := hrel
      by_cases hk2 : (k : Int) < 67
      · have hsec := secret2_any h a k wo HL.out HB.out HA.out ⟨by omega, by omega⟩ (HLA1.out.up hu)
        have hrs := sigI_succ h a m k
        have hxs := secI_len h a k
        have hxb := secI_bytes h a k
        obtain ⟨s, hs⟩ : ∃ s, secI h a k = s := ⟨_, rfl⟩
        rw [hs] at hsec hxs hxb hrs
        obtain ⟨cs, hcs, _, _, _, _, _⟩ := hash_parts s hxs
        unfold HashPost at hsec
        rw [hcs, HCX.out] at hsec
        have HSEC := Lib.hid hsec
        have c1 := hu.cell (HD1.out k (by omega)) (fun h => h)
        have bd := digit_bd m HBM.out k (by omega)
        obtain ⟨d, hd⟩ : ∃ d, (digitsI m).getD k 0 = d := ⟨_, rfl⟩
        rw [hd] at c1 bd hrs
        have bd0 := bd.1
        have bd1 := bd.2
        clear hd bd
        have hxl := walkI_len s k 0 d.toNat hxs
        obtain ⟨x, hx⟩ : ∃ x, walkI s k 0 d.toNat = x := ⟨_, rfl⟩
        rw [hx] at hxl hrs
        obtain ⟨cy, hcy, huy, _, _, _, _⟩ := hash_parts x hxl
        have HRX := Lib.hid (hu.heap HXR.out (fun h => h))
        have HXS := Lib.hid hxs
        have HXB := Lib.hid hxb
        have HCS := Lib.hid hcs
        have HCY := Lib.hid hcy
        have HXX := Lib.hid hx
        have HXL := Lib.hid hxl
        have HUY := Lib.hid huy
        have HRS := Lib.hid hrs
        have HO := Lib.hid ho
        have HU := Lib.hid hu
        have huz := hu.size
        clear hsec hxs hxb hs hcs hx hxl hcy huy hrs ho hu
        go_wp2_with (refine wpList_load_row rfl 25 (.tmp 3) rfl w.heap.size (by rfl) 25 cx (0, 0) _ HRX.out Tryd.underlying25 rfl HSX.out ?_)
        refine HSEC.out.mono ?_
        rintro e W2 ⟨rfl, hb2⟩
        have hu2 : Up wo W2 := up_below hb2
        have hcall := walk_any s k 0 d W2 HXS.out HXB.out ⟨by omega, by omega⟩ ⟨by omega, by omega⟩ ⟨by omega, by omega⟩ (HLA1.out.up (HU.out.trans hu2))
        unfold HashPost at hcall
        rw [HCS.out, show ((d : Int) - 0).toNat = d.toNat by rw [Int.sub_zero], HXX.out, HCY.out] at hcall
        have HCALL := Lib.hid hcall
        clear hcall hb2 HSEC
        go_wp2_with fail
        refine HCALL.out.mono ?_
        rintro e W3 ⟨rfl, hb3⟩
        have hu3 : Up wo W3 := hu2.trans (up_below hb3)
        obtain ⟨A2, c2, w2, hrun, ho2, hc2⟩ := push_hash W3 W1.heap.size _ k (sigI h a m k) (own_up HO.out hu3) x cy HUY.out HXL.out (by omega) (by have := hu3.size; omega)
        have HRUN := Lib.hid hrun
        have HO2 := Lib.hid ho2
        have HU2 := Lib.hid ((HU.out.trans hu3).then hc2 (fun i hi => .inr (by have := ((own_up HO.out hu3).lt i hi).1; omega)))
        clear hb3 hu2 hu3 hrun ho2 hc2 HCALL
        go_wp2_with (first
          | refine wpList_build_hash rfl (.tmp 29) rfl x cy HUY.out HXL.out (by rfl) ?_
          | (at_builtin; refine wpList_run_append rfl _ _ 49 rfl _ _ rfl rfl 49 rfl HRUN.out ?_))
        go_roundw
        case rel =>
          refine ⟨k + 1, c2, A2, by omega, by go_num, rfl, ?_, HU2.out⟩
          rw [HRS.out]; exact HO2.out
        case measure => simp [intOf]; omega
      · obtain rfl : k = 67 := by omega
        have HO := Lib.hid ho
        have HU := Lib.hid (HC1.out.trans hu)
        clear ho hu HC1
        go_wp2
        refine bodyPost_ret (results_tmp2 rfl _ _ _) rfl ?_
        refine ⟨HU.out.below_none (fun _ _ h => h), .inl ⟨HIN.out, B, c, rfl, ?_⟩⟩
        refine ⟨HO.out.1, HO.out.2.imp id (fun ⟨g, cap, cur, he, hb, hr⟩ => ⟨g, cap, cur, he, by omega, hr⟩)⟩
end Go.Proofs.YtaahffminoekfaaDoor
