/-
  ShaTexts, walked.
-/
import Derived.Test.YtaahffminoekfaaDoorS3
namespace Go.Proofs.YtaahffminoekfaaDoor
open Go.RowKit
set_option maxRecDepth 100000 in
set_option maxHeartbeats 1000000 in
theorem texts_any (h : List Int) (w : World) (hl : h.length = 32) (hb : Bytes h) (hla : Laid w) :
    Calls Tryd.prog 8 #[hashV h] w (TruePost w) := by
  have hl2 := hla.lt
  have Sh := fun W => show_any h W hl hb
  have Rs := fun W => rshow_any h W hl hb
  have hqs := eql25 h h hl hl
  have hqg := fun op x y W => guard25 op x y h h W
  rw [show (h == h) = true by simp] at hqs
  unfold hashV at Sh Rs hqs hqg ⊢
  obtain ⟨hc, hhc⟩ : ∃ hc, (u8s h).toArray = hc := ⟨_, rfl⟩
  have hsz := u8s_size hl
  have hone : hc.all (·.oneCell') = true := by rw [← hhc]; exact all_one (u8s_one _)
  have hls : (u8s zeroH).toArray.size = hc.size := by rw [← hhc]; simp [u8s, zeroH, hl]
  rw [← lit_zero] at hls
  rw [hhc] at hsz Sh Rs hqs hqg ⊢
  have HSZ := Lib.hid hsz
  have HON := Lib.hid hone
  have HLS := Lib.hid hls
  have HB := Lib.hid hb
  have HL := Lib.hid hl
  have SH := Lib.hid Sh
  have RS := Lib.hid Rs
  have QS := Lib.hid hqs
  have QG := Lib.hid hqg
  have HHC := Lib.hid hhc
  have HLA := Lib.hid hla
  clear hsz hone hhc hb hl Sh Rs hqs hqg hls hla
  go_enter Tryd.func8, Tryd.ntmps8
  have hgl : (w.alloc (.cells hc 25)).heap[w.heap.size]? = some (.cells hc 25 (0, 0)) := heap_alloc_last _ _
  have HGL := Lib.hid hgl
  clear hgl
  go_wp2_with (refine wpList_load_row rfl 25 (.tmp 1) rfl w.heap.size (by rfl) 25 hc (0, 0) _ HGL.out Tryd.underlying25 rfl HSZ.out ?_)
  obtain ⟨W0, hW0⟩ : ∃ W0, W0 = w.alloc (.cells hc 25) := ⟨_, rfl⟩
  rw [← hW0] at HGL ⊢
  have hb0 : Hid (Below w.heap.size w W0) := by rw [hW0]; exact Lib.hid ((Below.refl _ _).alloc (Nat.le_refl _) _)
  clear hW0
  refine (SH.out W0).mono ?_
  rintro e W1 ⟨rfl, b1⟩
  have C1 := Lib.hid ((Chg.of_below hb0.out (fun _ => False)).then (Chg.of_below b1 (fun _ => False)) (fun _ h => h.elim))
  have G1 := Lib.hid ((b1.block _ (Array.getElem?_eq_some_iff.1 HGL.out).1).trans HGL.out)
  clear b1 hb0 HGL
  go_wp2_with fail
  refine (parse_any (showI h) W1 (fun j => ?_)).mono ?_
  · by_cases hj : j < (showI h).length
    · have := showI_at h (j / 2) (by rw [showI_len] at hj; omega)
      have hx := HB.out (j / 2)
      have dg : ∀ d : Int, 0 ≤ d → d < 16 → 0 ≤ digI d ∧ digI d ≤ 255 := fun d h0 h1 => by unfold digI; split <;> omega
      rcases Nat.mod_two_eq_zero_or_one j with hm | hm
      · rw [show 2 * (j / 2) = j by omega] at this; rw [this.1]; exact dg _ (by omega) (by omega)
      · rw [show 2 * (j / 2) + 1 = j by omega] at this; rw [this.2]; exact dg _ (by omega) (by omega)
    · rw [List.getD_eq_getElem?_getD, List.getElem?_eq_none (by omega)]; simp
  rintro e W2 ⟨b2, hcase⟩
  obtain rfl : e = .returned (.tuple #[.agg hc, .int .i64 0]) := by
    rcases hcase with ⟨he, _⟩ | ⟨_, hbad⟩
    · rw [he, dec_show h HB.out HL.out, hashV, HHC.out]
    · obtain ⟨i, hi, hneg⟩ := hbad (by rw [showI_len, HL.out])
      have := show_halves h HB.out i (by rw [HL.out]; exact hi)
      omega
  clear hcase
  have C2 := Lib.hid (C1.out.then (Chg.of_below b2 (fun _ => False)) (fun _ h => h.elim))
  have G2 := Lib.hid ((b2.block _ (Array.getElem?_eq_some_iff.1 G1.out).1).trans G1.out)
  have L2 : Hid ((W2.alloc (.cells #[.int .u8 0, .int .u8 0, .int .u8 0, .int .u8 0, .int .u8 0, .int .u8 0, .int .u8 0, .int .u8 0, .int .u8 0, .int .u8 0, .int .u8 0, .int .u8 0, .int .u8 0, .int .u8 0, .int .u8 0, .int .u8 0, .int .u8 0, .int .u8 0, .int .u8 0, .int .u8 0, .int .u8 0, .int .u8 0, .int .u8 0, .int .u8 0, .int .u8 0, .int .u8 0, .int .u8 0, .int .u8 0, .int .u8 0, .int .u8 0, .int .u8 0, .int .u8 0] 25)).heap[W2.heap.size]? = some (.cells #[.int .u8 0, .int .u8 0, .int .u8 0, .int .u8 0, .int .u8 0, .int .u8 0, .int .u8 0, .int .u8 0, .int .u8 0, .int .u8 0, .int .u8 0, .int .u8 0, .int .u8 0, .int .u8 0, .int .u8 0, .int .u8 0, .int .u8 0, .int .u8 0, .int .u8 0, .int .u8 0, .int .u8 0, .int .u8 0, .int .u8 0, .int .u8 0, .int .u8 0, .int .u8 0, .int .u8 0, .int .u8 0, .int .u8 0, .int .u8 0, .int .u8 0, .int .u8 0] 25 (0, 0))) := Lib.hid (heap_alloc_last _ _)
  have hlt : w.heap.size < W2.heap.size := (Array.getElem?_eq_some_iff.1 G2.out).1
  obtain ⟨W3, hW3⟩ : ∃ W3, W3 = (W2.alloc (.cells #[.int .u8 0, .int .u8 0, .int .u8 0, .int .u8 0, .int .u8 0, .int .u8 0, .int .u8 0, .int .u8 0, .int .u8 0, .int .u8 0, .int .u8 0, .int .u8 0, .int .u8 0, .int .u8 0, .int .u8 0, .int .u8 0, .int .u8 0, .int .u8 0, .int .u8 0, .int .u8 0, .int .u8 0, .int .u8 0, .int .u8 0, .int .u8 0, .int .u8 0, .int .u8 0, .int .u8 0, .int .u8 0, .int .u8 0, .int .u8 0, .int .u8 0, .int .u8 0] 25)).setRow W2.heap.size hc := ⟨_, rfl⟩
  have g3 : W3.heap[w.heap.size]? = some (.cells hc 25 (0, 0)) := by rw [hW3, setRow_other _ _ _ _ (by omega), Below.heap_alloc _ _ _ hlt]; exact G2.out
  have k3 : W3.heap[W2.heap.size]? = some (.cells hc 25 (0, 0)) := by rw [hW3]; exact setRow_same _ _ _ _ 25 (0, 0) L2.out
  have c23 : Chg (fun _ => False) W2 W3 := by rw [hW3]; exact ((Chg.refl (fun _ => False) W2).alloc _).setRow _ (.inr (Nat.le_refl _)) _
  have c3 : Chg (fun _ => False) w W3 := C2.out.then c23 (fun _ h => h.elim)
  have HW3 := Lib.hid hW3
  have G3 := Lib.hid g3
  have K3 := Lib.hid k3
  have C3 := Lib.hid c3
  clear b2 C1 G1 hW3 g3 k3 c3 c23
  go_wp2_with (first
    | (refine wpList_store_row rfl 25 (.tmp 4) (.tmp 11) rfl W2.heap.size hc (by rfl) (by rfl) 25 _ L2.out HSZ.out HLS.out HON.out ?_; rw [← HW3.out])
    | refine wpList_load_row rfl 25 (.tmp 1) rfl w.heap.size (by rfl) 25 hc (0, 0) _ G3.out Tryd.underlying25 rfl HSZ.out ?_)
  refine (RS.out W3).mono ?_
  rintro e W4 ⟨rfl, b4⟩
  have G4 := Lib.hid ((b4.block _ (Array.getElem?_eq_some_iff.1 G3.out).1).trans G3.out)
  have K4 := Lib.hid ((b4.block _ (Array.getElem?_eq_some_iff.1 K3.out).1).trans K3.out)
  have C4 := Lib.hid (C3.out.then (Chg.of_below b4 (fun _ => False)) (fun _ h => h.elim))
  have q0 := QS.out
  have q1 := QG.out
  clear b4 C3 G3 K3 L2 HW3 C2 G2
  go_wp2_with (first
    | refine want_load_row rfl 25 (.tmp 4) rfl W2.heap.size (by rfl) 25 hc (0, 0) _ K4.out Tryd.underlying25 rfl HSZ.out ?_
    | refine want_load_row rfl 25 (.tmp 1) rfl w.heap.size (by rfl) 25 hc (0, 0) _ G4.out Tryd.underlying25 rfl HSZ.out ?_)
  refine (awake_any W4 (HLA.out.chg C4.out (by simp) (by simp))).mono ?_
  rintro e W5 ⟨rfl, b5⟩
  have C5 := Lib.hid (C4.out.then (Chg.of_below b5 (fun _ => False)) (fun _ h => h.elim))
  clear b5
  go_wp2
  go_ret
  exact ⟨rfl, C5.out.below (Nat.le_refl _) (fun _ h => h.elim)⟩
set_option maxRecDepth 100000 in
set_option maxHeartbeats 1000000 in
theorem parses_any (ns : List Int) (w : World) (hb : Bytes ns) (hla : Laid w) :
    Calls Tryd.prog 9 #[.string (strOfNums ns)] w (TruePost w) := by
  have hl2 := hla.lt
  have hsz : (strOfNums ns).size = ns.length := strOfNums_size ns
  have PA := Lib.hid (parse_any ns w hb)
  have HLA := Lib.hid hla
  have RS : Hid (∀ W h, h.length = 32 → Bytes h → showI h = ns → Calls Tryd.prog 38 #[hashV h] W fun e w' => e = .returned (.string (strOfNums ns)) ∧ Below W.heap.size W w') := Lib.hid (fun W h h1 h2 h3 => (rshow_any h W h1 h2).mono (fun e w' he => by rw [ShowPost, h3] at he; exact he))
  obtain ⟨s, hs⟩ : ∃ s, strOfNums ns = s := ⟨_, rfl⟩
  rw [hs] at hsz PA RS ⊢
  clear hla hb hs
  by_cases hg : (200 : Int) < ns.length
  · have AW := Lib.hid (awake_any w HLA.out)
    go_enter Tryd.func9, Tryd.ntmps9
    go_wp2_with (go_at_call 21; refine AW.out.mono ?_; rintro e w' ⟨rfl, hb⟩)
    go_ret
    exact ⟨rfl, hb⟩
  go_enter Tryd.func9, Tryd.ntmps9
  go_wp2_with fail
  refine PA.out.mono ?_
  rintro e W2 ⟨b2, hcase⟩
  have L2 : Hid ((W2.alloc (.cells #[.int .u8 0, .int .u8 0, .int .u8 0, .int .u8 0, .int .u8 0, .int .u8 0, .int .u8 0, .int .u8 0, .int .u8 0, .int .u8 0, .int .u8 0, .int .u8 0, .int .u8 0, .int .u8 0, .int .u8 0, .int .u8 0, .int .u8 0, .int .u8 0, .int .u8 0, .int .u8 0, .int .u8 0, .int .u8 0, .int .u8 0, .int .u8 0, .int .u8 0, .int .u8 0, .int .u8 0, .int .u8 0, .int .u8 0, .int .u8 0, .int .u8 0, .int .u8 0] 25)).heap[W2.heap.size]? = some (.cells #[.int .u8 0, .int .u8 0, .int .u8 0, .int .u8 0, .int .u8 0, .int .u8 0, .int .u8 0, .int .u8 0, .int .u8 0, .int .u8 0, .int .u8 0, .int .u8 0, .int .u8 0, .int .u8 0, .int .u8 0, .int .u8 0, .int .u8 0, .int .u8 0, .int .u8 0, .int .u8 0, .int .u8 0, .int .u8 0, .int .u8 0, .int .u8 0, .int .u8 0, .int .u8 0, .int .u8 0, .int .u8 0, .int .u8 0, .int .u8 0, .int .u8 0, .int .u8 0] 25 (0, 0))) := Lib.hid (heap_alloc_last _ _)
  rcases hcase with ⟨rfl, hl, hdg⟩ | ⟨rfl, _⟩
  · have hR := fun W => RS.out W (decI ns) (decI_len ns) (decI_bytes ns hdg) (show_dec ns hl hdg)
    have hsz := u8s_size (decI_len ns)
    unfold hashV at hR ⊢
    obtain ⟨hc, hhc⟩ : ∃ hc, (u8s (decI ns)).toArray = hc := ⟨_, rfl⟩
    have hone : hc.all (·.oneCell') = true := by rw [← hhc]; exact all_one (u8s_one _)
    have hls : (#[.int .u8 0, .int .u8 0, .int .u8 0, .int .u8 0, .int .u8 0, .int .u8 0, .int .u8 0, .int .u8 0, .int .u8 0, .int .u8 0, .int .u8 0, .int .u8 0, .int .u8 0, .int .u8 0, .int .u8 0, .int .u8 0, .int .u8 0, .int .u8 0, .int .u8 0, .int .u8 0, .int .u8 0, .int .u8 0, .int .u8 0, .int .u8 0, .int .u8 0, .int .u8 0, .int .u8 0, .int .u8 0, .int .u8 0, .int .u8 0, .int .u8 0, .int .u8 0] : Array Value).size = hc.size := by rw [← hhc, lit_zero]; simp [u8s, zeroH, decI_len]
    rw [hhc] at hsz hR ⊢
    obtain ⟨W3, hW3⟩ : ∃ W3, W3 = (W2.alloc (.cells #[.int .u8 0, .int .u8 0, .int .u8 0, .int .u8 0, .int .u8 0, .int .u8 0, .int .u8 0, .int .u8 0, .int .u8 0, .int .u8 0, .int .u8 0, .int .u8 0, .int .u8 0, .int .u8 0, .int .u8 0, .int .u8 0, .int .u8 0, .int .u8 0, .int .u8 0, .int .u8 0, .int .u8 0, .int .u8 0, .int .u8 0, .int .u8 0, .int .u8 0, .int .u8 0, .int .u8 0, .int .u8 0, .int .u8 0, .int .u8 0, .int .u8 0, .int .u8 0] 25)).setRow W2.heap.size hc := ⟨_, rfl⟩
    have k3 : W3.heap[W2.heap.size]? = some (.cells hc 25 (0, 0)) := by rw [hW3]; exact setRow_same _ _ _ _ 25 (0, 0) L2.out
    have c23 : Chg (fun _ => False) W2 W3 := by rw [hW3]; exact ((Chg.refl (fun _ => False) W2).alloc _).setRow _ (.inr (Nat.le_refl _)) _
    have C3 := Lib.hid ((Chg.of_below b2 (fun _ => False)).then c23 (fun _ h => h.elim))
    have HSZ := Lib.hid hsz
    have HON := Lib.hid hone
    have HLS := Lib.hid hls
    have HR := Lib.hid hR
    have HW3 := Lib.hid hW3
    have K3 := Lib.hid k3
    clear hsz hone hls hR hW3 k3 c23 b2 hhc hdg PA RS
    go_wp2_with (first
      | (refine wpList_store_row rfl 25 (.tmp 3) (.tmp 12) rfl W2.heap.size hc (by rfl) (by rfl) 25 _ L2.out HSZ.out HLS.out HON.out ?_; rw [← HW3.out])
      | refine wpList_load_row rfl 25 (.tmp 3) rfl W2.heap.size (by rfl) 25 hc (0, 0) _ K3.out Tryd.underlying25 rfl HSZ.out ?_)
    refine (HR.out W3).mono ?_
    rintro e W4 ⟨rfl, b4⟩
    have C4 := Lib.hid (C3.out.then (Chg.of_below b4 (fun _ => False)) (fun _ h => h.elim))
    clear b4
    go_wp2_with fail
    refine (awake_any W4 (HLA.out.chg C4.out (by simp) (by simp))).mono ?_
    rintro e W5 ⟨rfl, b5⟩
    have C5 := Lib.hid (C4.out.then (Chg.of_below b5 (fun _ => False)) (fun _ h => h.elim))
    clear b5
    go_wp2
    go_ret
    exact ⟨rfl, C5.out.below (Nat.le_refl _) (fun _ h => h.elim)⟩
  · have hsz := u8s_size (l := zeroH) rfl
    have q0 := eql25 zeroH zeroH rfl rfl
    have q1 := fun op x y W => guard25 op x y zeroH zeroH W
    rw [show (zeroH == zeroH) = true by simp] at q0
    unfold hashV at q0 q1 ⊢
    rw [← lit_zero] at hsz q0 q1 ⊢
    have hone : (#[.int .u8 0, .int .u8 0, .int .u8 0, .int .u8 0, .int .u8 0, .int .u8 0, .int .u8 0, .int .u8 0, .int .u8 0, .int .u8 0, .int .u8 0, .int .u8 0, .int .u8 0, .int .u8 0, .int .u8 0, .int .u8 0, .int .u8 0, .int .u8 0, .int .u8 0, .int .u8 0, .int .u8 0, .int .u8 0, .int .u8 0, .int .u8 0, .int .u8 0, .int .u8 0, .int .u8 0, .int .u8 0, .int .u8 0, .int .u8 0, .int .u8 0, .int .u8 0] : Array Value).all (·.oneCell') = true := by rw [lit_zero]; exact all_one (u8s_one _)
    obtain ⟨W3, hW3⟩ : ∃ W3, W3 = (W2.alloc (.cells #[.int .u8 0, .int .u8 0, .int .u8 0, .int .u8 0, .int .u8 0, .int .u8 0, .int .u8 0, .int .u8 0, .int .u8 0, .int .u8 0, .int .u8 0, .int .u8 0, .int .u8 0, .int .u8 0, .int .u8 0, .int .u8 0, .int .u8 0, .int .u8 0, .int .u8 0, .int .u8 0, .int .u8 0, .int .u8 0, .int .u8 0, .int .u8 0, .int .u8 0, .int .u8 0, .int .u8 0, .int .u8 0, .int .u8 0, .int .u8 0, .int .u8 0, .int .u8 0] 25)).setRow W2.heap.size #[.int .u8 0, .int .u8 0, .int .u8 0, .int .u8 0, .int .u8 0, .int .u8 0, .int .u8 0, .int .u8 0, .int .u8 0, .int .u8 0, .int .u8 0, .int .u8 0, .int .u8 0, .int .u8 0, .int .u8 0, .int .u8 0, .int .u8 0, .int .u8 0, .int .u8 0, .int .u8 0, .int .u8 0, .int .u8 0, .int .u8 0, .int .u8 0, .int .u8 0, .int .u8 0, .int .u8 0, .int .u8 0, .int .u8 0, .int .u8 0, .int .u8 0, .int .u8 0] := ⟨_, rfl⟩
    have k3 : W3.heap[W2.heap.size]? = some (.cells #[.int .u8 0, .int .u8 0, .int .u8 0, .int .u8 0, .int .u8 0, .int .u8 0, .int .u8 0, .int .u8 0, .int .u8 0, .int .u8 0, .int .u8 0, .int .u8 0, .int .u8 0, .int .u8 0, .int .u8 0, .int .u8 0, .int .u8 0, .int .u8 0, .int .u8 0, .int .u8 0, .int .u8 0, .int .u8 0, .int .u8 0, .int .u8 0, .int .u8 0, .int .u8 0, .int .u8 0, .int .u8 0, .int .u8 0, .int .u8 0, .int .u8 0, .int .u8 0] 25 (0, 0)) := by rw [hW3]; exact setRow_same _ _ _ _ 25 (0, 0) L2.out
    have c23 : Chg (fun _ => False) W2 W3 := by rw [hW3]; exact ((Chg.refl (fun _ => False) W2).alloc _).setRow _ (.inr (Nat.le_refl _)) _
    have C3 := Lib.hid ((Chg.of_below b2 (fun _ => False)).then c23 (fun _ h => h.elim))
    have HSZ := Lib.hid hsz
    have HON := Lib.hid hone
    have HW3 := Lib.hid hW3
    have K3 := Lib.hid k3
    clear hsz hone hW3 k3 c23 b2 PA RS
    go_wp2_with (first
      | (refine wpList_store_row rfl 25 (.tmp 3) (.tmp 12) rfl W2.heap.size #[.int .u8 0, .int .u8 0, .int .u8 0, .int .u8 0, .int .u8 0, .int .u8 0, .int .u8 0, .int .u8 0, .int .u8 0, .int .u8 0, .int .u8 0, .int .u8 0, .int .u8 0, .int .u8 0, .int .u8 0, .int .u8 0, .int .u8 0, .int .u8 0, .int .u8 0, .int .u8 0, .int .u8 0, .int .u8 0, .int .u8 0, .int .u8 0, .int .u8 0, .int .u8 0, .int .u8 0, .int .u8 0, .int .u8 0, .int .u8 0, .int .u8 0, .int .u8 0] (by rfl) (by rfl) 25 _ L2.out HSZ.out rfl HON.out ?_; rw [← HW3.out])
      | refine want_load_row rfl 25 (.tmp 3) rfl W2.heap.size (by rfl) 25 #[.int .u8 0, .int .u8 0, .int .u8 0, .int .u8 0, .int .u8 0, .int .u8 0, .int .u8 0, .int .u8 0, .int .u8 0, .int .u8 0, .int .u8 0, .int .u8 0, .int .u8 0, .int .u8 0, .int .u8 0, .int .u8 0, .int .u8 0, .int .u8 0, .int .u8 0, .int .u8 0, .int .u8 0, .int .u8 0, .int .u8 0, .int .u8 0, .int .u8 0, .int .u8 0, .int .u8 0, .int .u8 0, .int .u8 0, .int .u8 0, .int .u8 0, .int .u8 0] (0, 0) _ K3.out Tryd.underlying25 rfl HSZ.out ?_)
    refine (awake_any W3 (HLA.out.chg C3.out (by simp) (by simp))).mono ?_
    rintro e W5 ⟨rfl, b5⟩
    have C5 := Lib.hid (C3.out.then (Chg.of_below b5 (fun _ => False)) (fun _ h => h.elim))
    clear b5
    go_wp2
    go_ret
    exact ⟨rfl, C5.out.below (Nat.le_refl _) (fun _ h => h.elim)⟩
theorem str_nums (s : ByteArray) : ∃ ns, s = strOfNums ns ∧ Bytes ns := by
  obtain ⟨⟨l⟩⟩ := s
  refine ⟨l.map fun b => (b.toNat : Int), ?_, fun j => ?_⟩
  · unfold strOfNums
    congr 2
    rw [List.map_map]
    symm
    conv => rhs; rw [← List.map_id l]
    apply List.map_congr_left
    intro b _
    simp
  · rw [List.getD_eq_getElem?_getD, List.getElem?_map]
    cases h : l[j]? with
    | none => simp
    | some b =>
      have := b.toNat_lt
      simp only [Option.map_some, Option.getD_some]
      omega
set_option maxRecDepth 100000 in
theorem open_str {H : Type} {enc : TypeId × Value → H} {W : World} {base b0 : Nat} {sp : Nat → Bool} {held : Bool} {r : Reach} {v : Value} {d : DataW H} {p : List MemPlace} (hv : Value.okWide Tryd.prog W r b0 9 v)
    (_h : DataW.Trod enc Tryd.prog W base sp held 9 v d p) : ∃ xs, v = .string (strOfNums xs) ∧ Bytes xs := by
  obtain ⟨s, rfl⟩ := WideShapes.okWide_string Tryd.underlying9 hv
  obtain ⟨ns, rfl, hb⟩ := str_nums s
  exact ⟨ns, rfl, hb⟩
end Go.Proofs.YtaahffminoekfaaDoor
