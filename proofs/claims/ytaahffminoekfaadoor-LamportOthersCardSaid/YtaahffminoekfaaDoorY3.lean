/-
  The document's digits of a hash, walked.
-/
import Derived.Test.YtaahffminoekfaaDoorY2
namespace Go.Proofs.YtaahffminoekfaaDoor
open Go.RowKit
/-- A list of numbers of the call's own. -/
def IntsPost (n : Nat) (l : List Int) (w : World) (e : Ending) (w' : World) : Prop := ∃ v, e = .returned v ∧ w'.ownsRow w.heap.size 3 1 v n (i64s l) ∧ Below w.heap.size w w'
theorem hash_at (h : List Int) (cx : Array Value) (hcx : (u8s h).toArray = cx) (hl : h.length = 32) (j : Nat) (hj : j < 32) : cx[j]? = some (.int .u8 (h.getD j 0)) := by
  rw [← hcx]; simp [u8s, List.getD_eq_getElem?_getD, List.getElem?_eq_getElem (show j < h.length by omega)]
set_option maxRecDepth 100000 in
set_option maxHeartbeats 2000000 in
theorem refDigits_any (h : List Int) (hl : h.length = 32) (hb : Bytes h) (w : World) :
    Calls Tryd.prog 45 #[hashV h] w (IntsPost 67 (digitsI h) w) := by
  obtain ⟨cx, hcx, hux, _, _, _, _⟩ := hash_parts h hl
  rw [hcx]
  have HX := Lib.hid (hash_at h cx hux hl)
  have HB := Lib.hid hb
  have HLK := Lib.hid (lack_bd h hb)
  have HD := Lib.hid (dgI_bd h hb)
  clear hcx hux hl hb
  go_enter Tryd.func45, Tryd.ntmps45
  go_wp2_with fail
  have hgl : (w.alloc (.cells cx 24)).heap[w.heap.size]? = some (.cells cx 24 (0, 0)) := heap_alloc_last _ _
  have HGL := Lib.hid hgl
  clear hgl
  obtain ⟨W0, hW0⟩ : ∃ W0, W0 = w.alloc (.cells cx 24) := ⟨_, rfl⟩
  rw [← hW0] at HGL ⊢
  have hb0 : Hid (Below w.heap.size w W0) := by rw [hW0]; exact Lib.hid ((Below.refl _ _).alloc (Nat.le_refl _) _)
  clear hW0
  go_loopw [3, 4, 5] (fun o s i wr => ∃ (k c : Nat) (B : Option Addr), k ≤ 64 ∧ i = .int .i64 k ∧ s = .int .i64 (lackI h k) ∧ o = .slice B k c ∧ wr.ownsRow (w.heap.size + 1) 3 1 (.slice B k c) k (i64s (dgs h k)) ∧ Below w.heap.size w wr ∧ wr.heap[w.heap.size]? = some (.cells cx 24 (0, 0))) (fun _ _ i _ => 64 - (intOf i).toNat)
  case atStart => exact ⟨0, 0, none, by omega, rfl, rfl, rfl, World.ownsRow_nil _ _ _ _, hb0.out, HGL.out⟩
  case round =>
    clear hb0 HGL
    rename World => wo
    obtain ⟨k, c, B, hk, rfl, rfl, rfl, ho, hbw, hg⟩ := hrel
    have HO := Lib.hid ho
    have HBW := Lib.hid hbw
    have hwz : w.heap.size + 1 ≤ wo.heap.size := (Array.getElem?_eq_some_iff.1 hg).1
    by_cases hk2 : (k : Int) < 64
    · have c0 : wo.cell? ⟨w.heap.size, k / 2, none⟩ = some (.int .u8 (h.getD (k / 2) 0)) := (cell_of_row _ _ _ _ _ _ hg).trans (HX.out (k / 2) (by omega))
      have HG := Lib.hid hg
      have hx := HB.out (k / 2)
      have hL := HLK.out k
      have hd := HD.out k
      have hst : lackI h (k + 1) = lackI h k + (15 - dgI h k) := rfl
      have hdg : dgI h k = if k % 2 = 0 then h.getD (k / 2) 0 / 16 else h.getD (k / 2) 0 % 16 := rfl
      obtain ⟨x, hxx⟩ : ∃ x, h.getD (k / 2) 0 = x := ⟨_, rfl⟩
      obtain ⟨L, hLL⟩ : ∃ L, lackI h k = L := ⟨_, rfl⟩
      obtain ⟨d, hdd⟩ : ∃ d, dgI h k = d := ⟨_, rfl⟩
      rw [hxx] at c0 hx hdg
      rw [hLL] at hL hst ⊢
      rw [hdd] at hd hst hdg
      obtain ⟨A2, c2, w2, hrun, ho2, hc2, _⟩ := push_run (P := Tryd.prog) wo 55 55 (w.heap.size + 1) 3 (.int .i64 0) 8 Tryd.underlying55 (by kernel_rfl) rfl _ _ _ HO.out [.int .i64 d] 1 rfl (by simp [Value.oneCell']) (by omega) (by omega) hwz
      have hg2 := hc2.heap hg (fun he => by have := (HO.out.lt _ he).1; omega)
      have hb2 : Below w.heap.size w w2 := ((Chg.of_below hbw (fun i => w.heap.size < i)).then hc2 (fun i hi => .inl (by have := (HO.out.lt i hi).1; omega))).below (Nat.le_refl _) (fun _ h => Nat.le_of_lt h)
      have hk8 : (k : Int) / 2 < 32 := by omega
      have hk0 : (0 : Int) ≤ (k : Int) / 2 := by omega
      have HR := Lib.hid hrun
      have HO2 := Lib.hid ho2
      have HB2 := Lib.hid hb2
      have HG2 := Lib.hid hg2
      have HST := Lib.hid hst
      have HDD := Lib.hid hdd
      have HDG := Lib.hid hdg
      clear hrun ho2 hc2 hb2 hg2 hst hdd hdg hxx hLL hg ho hbw
      have hpp : ((k : Int) % 2 = 0 ∧ d = x / 16) ∨ (¬ (k : Int) % 2 = 0 ∧ d = x % 16) := by
        have h1 := HDG.out
        by_cases hp : k % 2 = 0
        · rw [if_pos hp] at h1; exact .inl ⟨by omega, h1⟩
        · rw [if_neg hp] at h1; exact .inr ⟨by omega, h1⟩
      clear HDG
      rcases hpp with ⟨hp, rfl⟩ | ⟨hp, rfl⟩
      all_goals
        go_wp2_with (at_builtin; refine wpList_run_append rfl _ _ 55 rfl _ _ rfl rfl 55 rfl HR.out ?_)
        go_roundw
        case rel =>
          refine ⟨k + 1, c2, A2, by omega, by go_num, by rw [HST.out], rfl, ?_, HB2.out, HG2.out⟩
          rw [dgs_succ, HDD.out]
          simpa [i64s] using HO2.out
        case measure => simp [intOf]; omega
    · obtain rfl : k = 64 := by omega
      have hL := HLK.out 64
      obtain ⟨L, hLL⟩ : ∃ L, lackI h 64 = L := ⟨_, rfl⟩
      rw [hLL] at hL ⊢
      have hL0 : 0 ≤ L := hL.1
      have hL1 : L ≤ 960 := by omega
      have HLL := Lib.hid hLL
      clear hL hLL
      obtain ⟨A1, c1, w1, r1, o1, g1, _⟩ := push_run (P := Tryd.prog) wo 55 55 (w.heap.size + 1) 3 (.int .i64 0) 8 Tryd.underlying55 (by kernel_rfl) rfl _ _ _ HO.out [.int .i64 (L / 256)] 1 rfl (by simp [Value.oneCell']) (by omega) (by omega) hwz
      obtain ⟨A2, c2, w2, r2, o2, g2, _⟩ := push_run (P := Tryd.prog) w1 55 55 (w.heap.size + 1) 3 (.int .i64 0) 8 Tryd.underlying55 (by kernel_rfl) rfl _ _ _ o1 [.int .i64 (L % 256 / 16)] 1 rfl (by simp [Value.oneCell']) (by omega) (by omega) (Nat.le_trans hwz g1.size)
      obtain ⟨A3, c3, w3, r3, o3, g3, _⟩ := push_run (P := Tryd.prog) w2 55 55 (w.heap.size + 1) 3 (.int .i64 0) 8 Tryd.underlying55 (by kernel_rfl) rfl _ _ _ o2 [.int .i64 (L % 16)] 1 rfl (by simp [Value.oneCell']) (by omega) (by omega) (Nat.le_trans hwz (Nat.le_trans g1.size g2.size))
      have hb3 : Below w.heap.size w w3 := ((((Chg.of_below hbw (fun i => w.heap.size < i)).then g1 (fun i hi => .inl (by have := (ho.lt i hi).1; omega))).then g2 (fun i hi => .inl (by have := (o1.lt i hi).1; omega))).then g3 (fun i hi => .inl (by have := (o2.lt i hi).1; omega))).below (Nat.le_refl _) (fun _ h => Nat.le_of_lt h)
      have R1 := Lib.hid r1
      have R2 := Lib.hid r2
      have R3 := Lib.hid r3
      have O3 := Lib.hid o3
      have B3 := Lib.hid hb3
      clear r1 r2 r3 o1 o2 o3 g1 g2 g3 hb3 ho hbw hg
      go_wp2_with fail
      refine wp_loop_rounds 4 ?_
      rw [_root_.Go.rounds_succ]
      go_wp2_with (at_builtin; refine wpList_run_append rfl _ _ 55 rfl _ _ rfl rfl 55 rfl R1.out ?_)
      rw [_root_.Go.rounds_succ]
      go_wp2_with (at_builtin; refine wpList_run_append rfl _ _ 55 rfl _ _ rfl rfl 55 rfl R2.out ?_)
      rw [_root_.Go.rounds_succ]
      go_wp2_with (at_builtin; refine wpList_run_append rfl _ _ 55 rfl _ _ rfl rfl 55 rfl R3.out ?_)
      rw [_root_.Go.rounds_succ]
      go_wp2
      go_ret
      refine ⟨_, rfl, ?_, B3.out⟩
      have := O3.out
      have e1 : L % 256 / 16 = L / 16 % 16 := by omega
      rw [e1] at this
      have e3 : i64s (digitsI h) = i64s (dgs h 64) ++ [.int .i64 (L / 256)] ++ [.int .i64 (L / 16 % 16)] ++ [.int .i64 (L % 16)] := by
        unfold digitsI; rw [HLL.out]; simp [i64s]
      rw [e3]
      exact ⟨this.1, this.2.imp id (fun ⟨g, cap, cur, he, hb, hr⟩ => ⟨g, cap, cur, he, by omega, hr⟩)⟩
end Go.Proofs.YtaahffminoekfaaDoor
