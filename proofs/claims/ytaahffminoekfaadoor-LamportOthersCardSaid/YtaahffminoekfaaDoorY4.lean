/-
  Steps along a chain, walked.
-/
import Derived.Test.YtaahffminoekfaaDoorY3
import Derived.Test.YtaahffminoekfaaDoorR1
namespace Go.Proofs.YtaahffminoekfaaDoor
open Go.RowKit
def HashPost (x : List Int) (w : World) (e : Ending) (w' : World) : Prop := e = .returned (hashV x) ∧ Below w.heap.size w w'
/-- One step of a chain. -/
def stepI (h : List Int) (c s : Int) : List Int := shaI (2 :: (h ++ num2 c ++ num2 s))
/-- So many steps. -/
def walkI (h : List Int) (c s : Int) : Nat → List Int
  | 0 => h
  | n + 1 => stepI (walkI h c s n) c (s + n)
theorem walkI_len (h : List Int) (c s : Int) (n : Nat) (hl : h.length = 32) : (walkI h c s n).length = 32 := by
  cases n with
  | zero => exact hl
  | succ n => exact hash_size _
theorem walkI_bytes (h : List Int) (c s : Int) (n : Nat) (hb : Bytes h) : Bytes (walkI h c s n) := by
  cases n with
  | zero => exact hb
  | succ n => exact shaI_bytes _
attribute [irreducible] walkI stepI
theorem walkI_zero (h : List Int) (c s : Int) : walkI h c s 0 = h := by unfold walkI; rfl
theorem walkI_succ (h : List Int) (c s : Int) (n : Nat) : walkI h c s (n + 1) = stepI (walkI h c s n) c (s + n) := by rw [walkI]
theorem stepI_eq (h : List Int) (c s : Int) : shaI (2 :: (h ++ num2 c ++ num2 s)) = stepI h c s := by rw [stepI]
theorem walkI_add (h : List Int) (c s : Int) (n m : Nat) : walkI h c s (n + m) = walkI (walkI h c s n) c (s + n) m := by
  induction m with
  | zero => rw [walkI_zero]; rfl
  | succ m ih => rw [← Nat.add_assoc, walkI_succ, walkI_succ, ih]; congr 1; omega
set_option maxRecDepth 100000 in
set_option maxHeartbeats 2000000 in
theorem walk_any (h : List Int) (c s t : Int) (w : World) (hl : h.length = 32) (hb : Bytes h) (hc : I64 c) (hs : I64 s) (ht : I64 t) (hla : Laid w) :
    Calls Tryd.prog 47 #[hashV h, .int .i64 c, .int .i64 s, .int .i64 t] w (HashPost (walkI h c s (t - s).toNat) w) := by
  have hl2 := hla.lt
  obtain ⟨hs1, hs2⟩ := hs
  obtain ⟨ht1, ht2⟩ := ht
  obtain ⟨cx, hcx, hux, _, _, _, _⟩ := hash_parts h hl
  rw [hcx]
  have HUX := Lib.hid hux
  have HB := Lib.hid hb
  have HL := Lib.hid hl
  have HLA := Lib.hid hla
  have HC := Lib.hid hc
  clear hcx hux hl hb hla hc
  go_enter Tryd.func47, Tryd.ntmps47
  go_wp2_with fail
  obtain ⟨W0, hW0⟩ : ∃ W0, W0 = (w.alloc (.cells cx 25)).alloc (.cells ((List.replicate 32 (Value.int .u8 0)).toArray) 25) := ⟨_, rfl⟩
  rw [lit32, ← hW0]
  have HR0 : Hid (W0.heap[w.heap.size + 1]? = some (.cells ((List.replicate 32 (Value.int .u8 0)).toArray) 25 (0, 0))) := Lib.hid (by
    rw [hW0]; have := heap_alloc_last (w.alloc (.cells cx 25)) (.cells ((List.replicate 32 (Value.int .u8 0)).toArray) 25); rwa [World.size_alloc] at this)
  have HX0 : Hid (W0.heap[w.heap.size]? = some (.cells cx 25 (0, 0))) := Lib.hid (by rw [hW0]; exact (Below.heap_alloc _ _ _ (by simp)).trans (heap_alloc_last _ _))
  have HC0 : Hid (Chg (fun i => w.heap.size ≤ i) w W0) := Lib.hid (by rw [hW0]; exact ((Chg.refl _ w).alloc _).alloc _)
  clear hW0
  go_loopw [9] (fun i wr => ∃ (m : Nat) (hc : Array Value), (m : Int) ≤ max (t - s) 0 ∧ i = .int .i64 (s + m) ∧ (u8s (walkI h c s m)).toArray = hc ∧ wr.heap[w.heap.size]? = some (.cells hc 25 (0, 0)) ∧ wr.heap[w.heap.size + 1]? = some (.cells ((List.replicate 32 (Value.int .u8 0)).toArray) 25 (0, 0)) ∧ Chg (fun i => w.heap.size ≤ i) w wr)
    (fun i _ => (t - intOf i).toNat)
  case atStart => exact ⟨0, cx, by omega, by simp, by rw [walkI_zero]; exact HUX.out, HX0.out, HR0.out, HC0.out⟩
  case round =>
    clear HR0 HX0 HC0
    rename World => wo
    obtain ⟨m, hc, hm, rfl, hhc, hx, hr, hch⟩ := hrel
    have hlw := walkI_len h c s m HL.out
    have hbw := walkI_bytes h c s m HB.out
    have hsucc := walkI_succ h c s m
    obtain ⟨y, hy⟩ : ∃ y, walkI h c s m = y := ⟨_, rfl⟩
    rw [hy] at hhc hlw hbw hsucc
    have HY := Lib.hid hy
    have HSU := Lib.hid hsucc
    have HHC := Lib.hid hhc
    have HX := Lib.hid hx
    have HR := Lib.hid hr
    have HCH := Lib.hid hch
    have HSZ := Lib.hid (u8s_size hlw)
    rw [hhc] at HSZ
    have hwz : w.heap.size + 1 < wo.heap.size := (Array.getElem?_eq_some_iff.1 hr).1
    by_cases hlt : s + m < t
    · have hcall := chain_any y c (s + m) wo hlw hbw HC.out.1 HC.out.2 (by omega) (by omega) (HLA.out.chg hch (by omega) (by omega))
      rw [show hashV y = .agg hc by rw [hashV, hhc]] at hcall
      obtain ⟨nx, hnx⟩ : ∃ nx, stepI y c (s + m) = nx := ⟨_, rfl⟩
      obtain ⟨hd, hhd, hud, hone, _, hszd, hds⟩ := hash_parts nx (by rw [← hnx, ← stepI_eq]; exact hash_size _)
      have hsame : hc.size = hd.size := by rw [hds, ← hhc]; simp [u8s, hlw]
      unfold SumPost at hcall
      rw [stepI_eq, hnx, hhd] at hcall
      have HCALL := Lib.hid hcall
      have HNX := Lib.hid hnx
      have HUD := Lib.hid hud
      have HON := Lib.hid hone
      have HSD := Lib.hid hszd
      have HSM := Lib.hid hsame
      clear hcall hnx hhd hud hone hszd hds hsame hlw hbw hsucc hy hhc hx hr hch
      go_wp2_with (refine wpList_load_row rfl 25 (.tmp 4) rfl w.heap.size (by rfl) 25 hc (0, 0) _ HX.out Tryd.underlying25 rfl HSZ.out ?_)
      refine HCALL.out.mono ?_
      rintro e W2 ⟨rfl, hb2⟩
      have HX2 : Hid (W2.heap[w.heap.size]? = some (.cells hc 25 (0, 0))) := Lib.hid ((hb2.block _ (by omega)).trans HX.out)
      have HR2 : Hid (W2.heap[w.heap.size + 1]? = some (.cells ((List.replicate 32 (Value.int .u8 0)).toArray) 25 (0, 0))) := Lib.hid ((hb2.block _ (by omega)).trans HR.out)
      have HC2 : Hid (Chg (fun i => w.heap.size ≤ i) w W2) := Lib.hid (HCH.out.then (up_below hb2) (fun _ h => h.elim))
      clear hb2
      go_wp2_with (refine wpList_store_row rfl 25 (.tmp 4) (.tmp 19) rfl w.heap.size hd (by rfl) (by rfl) 25 _ HX2.out HSD.out HSM.out HON.out ?_)
      go_roundw
      case rel =>
        refine ⟨m + 1, hd, by omega, by go_num, ?_, setRow_same W2 w.heap.size hd _ 25 (0, 0) HX2.out, ?_, HC2.out.setRow w.heap.size (.inl (Nat.le_refl _)) hd⟩
        · rw [HSU.out, HNX.out]; exact HUD.out
        · rw [setRow_other _ _ _ _ (by omega)]; exact HR2.out
      case measure => simp [intOf]; omega
    · have hme : m = (t - s).toNat := by omega
      have hone : hc.all (·.oneCell') = true := by rw [← hhc]; exact all_one (u8s_one _)
      have hold : ((List.replicate 32 (Value.int .u8 0)).toArray).size = hc.size := by rw [← hhc]; simp [u8s, hlw]
      have HON := Lib.hid hone
      have HOL := Lib.hid hold
      clear hone hold hlw hbw hsucc hy hhc hx hr hch
      go_wp2_with (first
        | refine wpList_load_row rfl 25 (.tmp 4) rfl w.heap.size (by rfl) 25 hc (0, 0) _ HX.out Tryd.underlying25 rfl HSZ.out ?_
        | refine wpList_store_row rfl 25 (.tmp 8) (.tmp 20) rfl (w.heap.size + 1) hc (by rfl) (by rfl) 25 _ HR.out HSZ.out HOL.out HON.out ?_)
      have hset := setRow_same wo (w.heap.size + 1) hc _ 25 (0, 0) HR.out
      refine bodyPost_ret (v := .agg hc) (results_cell_row rfl _ _ (w.heap.size + 1) 25 hc (0, 0) _ (by rfl) hset Tryd.underlying25 rfl HSZ.out) rfl ?_
      refine ⟨?_, (HCH.out.setRow (w.heap.size + 1) (.inl (by omega)) hc).below (Nat.le_refl _) (fun _ h => h)⟩
      rw [← hme, HY.out, hashV, HHC.out]
set_option maxRecDepth 100000 in
set_option maxHeartbeats 2000000 in
theorem walked_any (h : List Int) (c s t : Int) (w : World) (hl : h.length = 32) (hb : Bytes h) (hc : I64 c) (hs : I64 s) (ht : I64 t) (hla : Laid w) :
    Calls Tryd.prog 48 #[hashV h, .int .i64 c, .int .i64 s, .int .i64 t] w (HashPost (walkI h c s (t - s).toNat) w) := by
  have hl2 := hla.lt
  obtain ⟨hs1, hs2⟩ := hs
  obtain ⟨ht1, ht2⟩ := ht
  obtain ⟨cx, hcx, hux, _, _, _, _⟩ := hash_parts h hl
  rw [hcx]
  have HUX := Lib.hid hux
  have HB := Lib.hid hb
  have HL := Lib.hid hl
  have HLA := Lib.hid hla
  have HC := Lib.hid hc
  clear hcx hux hl hb hla hc
  go_enter Tryd.func48, Tryd.ntmps48
  go_wp2_with fail
  obtain ⟨W0, hW0⟩ : ∃ W0, W0 = (w.alloc (.cells cx 25)).alloc (.cells ((List.replicate 32 (Value.int .u8 0)).toArray) 25) := ⟨_, rfl⟩
  rw [lit32, ← hW0]
  have HR0 : Hid (W0.heap[w.heap.size + 1]? = some (.cells ((List.replicate 32 (Value.int .u8 0)).toArray) 25 (0, 0))) := Lib.hid (by
    rw [hW0]; have := heap_alloc_last (w.alloc (.cells cx 25)) (.cells ((List.replicate 32 (Value.int .u8 0)).toArray) 25); rwa [World.size_alloc] at this)
  have HX0 : Hid (W0.heap[w.heap.size]? = some (.cells cx 25 (0, 0))) := Lib.hid (by rw [hW0]; exact (Below.heap_alloc _ _ _ (by simp)).trans (heap_alloc_last _ _))
  have HC0 : Hid (Chg (fun i => w.heap.size ≤ i) w W0) := Lib.hid (by rw [hW0]; exact ((Chg.refl _ w).alloc _).alloc _)
  clear hW0
  go_loopw [9] (fun i wr => ∃ (m : Nat) (hc : Array Value), (m : Int) ≤ max (t - s) 0 ∧ i = .int .i64 (s + m) ∧ (u8s (walkI h c s m)).toArray = hc ∧ wr.heap[w.heap.size]? = some (.cells hc 25 (0, 0)) ∧ wr.heap[w.heap.size + 1]? = some (.cells ((List.replicate 32 (Value.int .u8 0)).toArray) 25 (0, 0)) ∧ Chg (fun i => w.heap.size ≤ i) w wr)
    (fun i _ => (t - intOf i).toNat)
  case atStart => exact ⟨0, cx, by omega, by simp, by rw [walkI_zero]; exact HUX.out, HX0.out, HR0.out, HC0.out⟩
  case round =>
    clear HR0 HX0 HC0
    rename World => wo
    obtain ⟨m, hc, hm, rfl, hhc, hx, hr, hch⟩ := hrel
    have hlw := walkI_len h c s m HL.out
    have hbw := walkI_bytes h c s m HB.out
    have hsucc := walkI_succ h c s m
    obtain ⟨y, hy⟩ : ∃ y, walkI h c s m = y := ⟨_, rfl⟩
    rw [hy] at hhc hlw hbw hsucc
    have HY := Lib.hid hy
    have HSU := Lib.hid hsucc
    have HHC := Lib.hid hhc
    have HX := Lib.hid hx
    have HR := Lib.hid hr
    have HCH := Lib.hid hch
    have HSZ := Lib.hid (u8s_size hlw)
    rw [hhc] at HSZ
    have hwz : w.heap.size + 1 < wo.heap.size := (Array.getElem?_eq_some_iff.1 hr).1
    by_cases hlt : s + m < t
    · have hcall := chain_any y c (s + m) wo hlw hbw HC.out.1 HC.out.2 (by omega) (by omega) (HLA.out.chg hch (by omega) (by omega))
      rw [show hashV y = .agg hc by rw [hashV, hhc]] at hcall
      obtain ⟨nx, hnx⟩ : ∃ nx, stepI y c (s + m) = nx := ⟨_, rfl⟩
      obtain ⟨hd, hhd, hud, hone, _, hszd, hds⟩ := hash_parts nx (by rw [← hnx, ← stepI_eq]; exact hash_size _)
      have hsame : hc.size = hd.size := by rw [hds, ← hhc]; simp [u8s, hlw]
      unfold SumPost at hcall
      rw [stepI_eq, hnx, hhd] at hcall
      have HCALL := Lib.hid hcall
      have HNX := Lib.hid hnx
      have HUD := Lib.hid hud
      have HON := Lib.hid hone
      have HSD := Lib.hid hszd
      have HSM := Lib.hid hsame
      clear hcall hnx hhd hud hone hszd hds hsame hlw hbw hsucc hy hhc hx hr hch
      go_wp2_with (refine wpList_load_row rfl 25 (.tmp 4) rfl w.heap.size (by rfl) 25 hc (0, 0) _ HX.out Tryd.underlying25 rfl HSZ.out ?_)
      refine HCALL.out.mono ?_
      rintro e W2 ⟨rfl, hb2⟩
      have HX2 : Hid (W2.heap[w.heap.size]? = some (.cells hc 25 (0, 0))) := Lib.hid ((hb2.block _ (by omega)).trans HX.out)
      have HR2 : Hid (W2.heap[w.heap.size + 1]? = some (.cells ((List.replicate 32 (Value.int .u8 0)).toArray) 25 (0, 0))) := Lib.hid ((hb2.block _ (by omega)).trans HR.out)
      have HC2 : Hid (Chg (fun i => w.heap.size ≤ i) w W2) := Lib.hid (HCH.out.then (up_below hb2) (fun _ h => h.elim))
      clear hb2
      go_wp2_with (refine wpList_store_row rfl 25 (.tmp 4) (.tmp 19) rfl w.heap.size hd (by rfl) (by rfl) 25 _ HX2.out HSD.out HSM.out HON.out ?_)
      go_roundw
      case rel =>
        refine ⟨m + 1, hd, by omega, by go_num, ?_, setRow_same W2 w.heap.size hd _ 25 (0, 0) HX2.out, ?_, HC2.out.setRow w.heap.size (.inl (Nat.le_refl _)) hd⟩
        · rw [HSU.out, HNX.out]; exact HUD.out
        · rw [setRow_other _ _ _ _ (by omega)]; exact HR2.out
      case measure => simp [intOf]; omega
    · have hme : m = (t - s).toNat := by omega
      have hone : hc.all (·.oneCell') = true := by rw [← hhc]; exact all_one (u8s_one _)
      have hold : ((List.replicate 32 (Value.int .u8 0)).toArray).size = hc.size := by rw [← hhc]; simp [u8s, hlw]
      have HON := Lib.hid hone
      have HOL := Lib.hid hold
      clear hone hold hlw hbw hsucc hy hhc hx hr hch
      go_wp2_with (first
        | refine wpList_load_row rfl 25 (.tmp 4) rfl w.heap.size (by rfl) 25 hc (0, 0) _ HX.out Tryd.underlying25 rfl HSZ.out ?_
        | refine wpList_store_row rfl 25 (.tmp 8) (.tmp 20) rfl (w.heap.size + 1) hc (by rfl) (by rfl) 25 _ HR.out HSZ.out HOL.out HON.out ?_)
      have hset := setRow_same wo (w.heap.size + 1) hc _ 25 (0, 0) HR.out
      refine bodyPost_ret (v := .agg hc) (results_cell_row rfl _ _ (w.heap.size + 1) 25 hc (0, 0) _ (by rfl) hset Tryd.underlying25 rfl HSZ.out) rfl ?_
      refine ⟨?_, (HCH.out.setRow (w.heap.size + 1) (.inl (by omega)) hc).below (Nat.le_refl _) (fun _ h => h)⟩
      rw [← hme, HY.out, hashV, HHC.out]
end Go.Proofs.YtaahffminoekfaaDoor
