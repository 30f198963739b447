/-
  The document's bytes one behind the other: walked.
-/
import Derived.Test.YtaahffminoekfaaDoorT3
namespace Go.Proofs.YtaahffminoekfaaDoor
open Go.RowKit
theorem sl_pos {w : World} {A : Option Addr} {n c : Nat} {xs : List Int} (h : SlB w (.slice A n c) xs) : n = xs.length := by
  obtain ⟨A', c', he, _⟩ := h.shape
  injection he
theorem take_snocI (xs : List Int) (k : Nat) (h : k < xs.length) : xs.take (k + 1) = xs.take k ++ [xs.getD k 0] := by
  rw [List.take_succ_eq_append_getElem h]
  simp [List.getD_eq_getElem?_getD, List.getElem?_eq_getElem h]
theorem own_lit (w : World) (xs : List Int) (hm : xs.length ≤ 1000000) : (w.alloc (.cells (u8s xs).toArray 5)).ownsRow w.heap.size 5 1 (.slice (some ⟨w.heap.size, 0, none⟩) xs.length xs.length) xs.length (u8s xs) :=
  ⟨by simp [u8s], .inr ⟨w.heap.size, xs.length, (u8s xs).toArray, rfl, Nat.le_refl _, heap_alloc_last _ _, Nat.le_refl _, by simp [maxLen]; omega, by simp [u8s], by simp [u8s, List.take_of_length_le]⟩⟩
set_option maxRecDepth 100000 in
set_option maxHeartbeats 2000000 in
theorem bytes_any (k : Int) (v : Value) (ls : List (List Int)) (F : List Int) (w : World) (h : SlBB w v ls) (hF : ls.flatten = F) (hlen : F.length ≤ 10000000) :
    Calls Tryd.prog 32 #[.int .u8 k, v] w (RowPost (1 + F.length) (k :: F) w) := by
  have hsm := h.small
  have hsh : ∃ A c, v = .slice A ls.length c := by
    rcases h with ⟨rfl, rfl⟩ | ⟨a, c, V, rfl, _⟩
    · exact ⟨_, _, rfl⟩
    · exact ⟨_, _, rfl⟩
  obtain ⟨A, ac, rfl⟩ := hsh
  have HV := Lib.hid h
  have HF := Lib.hid hF
  have HLEN := Lib.hid hlen
  clear h hlen hF
  go_enter Tryd.func32, Tryd.ntmps32
  go_wp2_with fail
  obtain ⟨W0, hW0⟩ : ∃ W0, W0 = w.alloc (.cells #[.int .u8 k] 5) := ⟨_, rfl⟩
  rw [← hW0]
  have O0 : Hid (W0.ownsRow w.heap.size 5 1 (.slice (some ⟨w.heap.size, 0, none⟩) 1 1) 1 (u8s [k])) := Lib.hid (by
    rw [hW0]; exact own_lit w [k] (by simp))
  have B0 : Hid (Below w.heap.size w W0) := Lib.hid (by rw [hW0]; exact (Below.refl _ _).alloc (Nat.le_refl _) _)
  clear hW0
  go_loopw [5, 6] (fun o i wr => ∃ (j c : Nat) (B : Option Addr), j ≤ ls.length ∧ i = .int .i64 j ∧ o = .slice B (1 + (ls.take j).flatten.length) c ∧ wr.ownsRow w.heap.size 5 1 (.slice B (1 + (ls.take j).flatten.length) c) (1 + (ls.take j).flatten.length) (u8s (k :: (ls.take j).flatten)) ∧ Below w.heap.size w wr) (fun _ i _ => ls.length - (intOf i).toNat)
  case atStart => exact ⟨0, 1, _, by omega, rfl, rfl, O0.out, B0.out⟩
  case round =>
    clear O0 B0
    rename World => wo
    obtain ⟨j, c, B, hj, rfl, rfl, ho, hb⟩ := hrel
    have HO := Lib.hid ho
    have HB := Lib.hid hb
    clear ho hb
    by_cases hjl : (j : Int) < ls.length
    · obtain ⟨b, off, cap, V, hv, _, _, hbs, hr⟩ := HV.out.form (by omega)
      obtain ⟨hc, hs, _⟩ := hr j (by omega)
      have hc' := HB.out.cell (p := ⟨b, off + j, none⟩) hbs
      rw [hc] at hc'
      injection hv with h1 h2 h3
      subst h1 h3
      have hfs := flat_succ ls j (by omega)
      have hfl : (ls.take (j + 1)).flatten.length ≤ 10000000 := by
        have := HLEN.out
        rw [← HF.out] at this
        have e := congrArg (fun l => (List.flatten l).length) (List.take_append_drop (j + 1) ls)
        simp only [List.flatten_append, List.length_append] at e
        omega
      obtain ⟨x, hx⟩ : ∃ x, ls.getD j [] = x := ⟨_, rfl⟩
      obtain ⟨L, hL⟩ : ∃ L, (ls.take j).flatten = L := ⟨_, rfl⟩
      rw [hx] at hs hfs
      rw [hfs, List.length_append] at hfl
      rw [hL] at hfs hfl HO ⊢
      obtain ⟨X, xc, hvk, _⟩ := hs.shape
      rw [hvk] at hc' hs
      have HFS := Lib.hid hfs
      have HS := Lib.hid hs
      rw [hvk] at hc
      have CW := Lib.hid hc
      have hxs : x.length ≤ 10000000 := by omega
      clear h2 hr hc hs hfs hx hvk hL
      go_wp2_with fail
      go_loopw [5, 7] (fun o i wi => ∃ (m c : Nat) (B : Option Addr), m ≤ x.length ∧ i = .int .i64 m ∧ o = .slice B (1 + L.length + m) c ∧ wi.ownsRow w.heap.size 5 1 (.slice B (1 + L.length + m) c) (1 + L.length + m) (u8s (k :: L ++ x.take m)) ∧ Below w.heap.size w wi) (fun _ i _ => x.length - (intOf i).toNat)
      case atStart => exact ⟨0, c, B, by omega, rfl, rfl, by simpa using HO.out, HB.out⟩
      case round =>
        clear HO HB hc'
        obtain ⟨m, c, B, hm, rfl, rfl, ho, hb⟩ := hrel
        have HO := Lib.hid ho
        have HB := Lib.hid hb
        clear ho hb
        have C1 : wr.cell? ⟨b, off + j, none⟩ = some (.slice X x.length xc) := (HB.out.cell (p := ⟨b, off + j, none⟩) hbs).trans CW.out
        by_cases hml : (m : Int) < x.length
        · obtain ⟨bx, ox, cx, hvx, _, _⟩ := HS.out.form (by omega)
          have hcx := HS.out
          rw [hvx] at hcx
          have hat := hcx.at_ m (by omega)
          injection hvx with h1 h2 h3
          subst h1 h3
          have hat' : wr.cell? ⟨bx, ox + m, none⟩ = some (.int .u8 (x.getD m 0)) := (HB.out.cell (p := ⟨bx, ox + m, none⟩) (World.block_lt_of_cell? w _ hat)).trans hat
          obtain ⟨y, hy⟩ : ∃ y, x.getD m 0 = y := ⟨_, rfl⟩
          rw [hy] at hat'
          obtain ⟨A2, c2, w2, hrun, ho2, hc2, _⟩ := push_run (P := Tryd.prog) wr 22 22 w.heap.size 5 (.int .u8 0) 1 Tryd.underlying22 (by kernel_rfl) rfl _ _ _ HO.out [.int .u8 y] 1 rfl (by simp [Value.oneCell']) (by omega) (by omega) HB.out.size
          have HR := Lib.hid hrun
          have HO2 := Lib.hid ho2
          have HC2 := Lib.hid hc2
          have HY := Lib.hid hy
          clear hrun ho2 hc2 hat hcx h2 hy
          go_wp2_with (at_builtin; refine wpList_run_append rfl _ _ 22 rfl _ _ rfl rfl 22 rfl HR.out ?_)
          go_roundw
          case rel =>
            refine ⟨m + 1, c2, A2, by omega, by go_num, by rw [Nat.add_assoc], ?_, ?_⟩
            · have := HO2.out
              rw [take_snocI x m (by omega), HY.out]
              rw [show 1 + L.length + (m + 1) = 1 + L.length + m + 1 by omega]
              simpa [u8s] using this
            · exact ((Chg.of_below HB.out (fun i => w.heap.size ≤ i)).then HC2.out (fun i hi => .inl (HO.out.lt i hi).1)).below (Nat.le_refl _) (fun _ h => h)
          case measure => simp [intOf]; omega
        · obtain rfl : m = x.length := by omega
          rw [List.take_length] at HO
          go_wp2
          go_roundw
          case rel =>
            refine ⟨j + 1, c, B, by omega, by go_num, ?_, ?_, HB.out⟩
            · rw [HFS.out, List.length_append]; congr 1; omega
            · rw [HFS.out, List.length_append]; have := HO.out; simpa [Nat.add_assoc] using this
          case measure => simp [intOf]; omega
    · obtain rfl : j = ls.length := by omega
      rw [List.take_length, HF.out] at HO ⊢
      go_wp2
      go_ret
      exact ⟨B, c, rfl, HO.out, HB.out⟩
end Go.Proofs.YtaahffminoekfaaDoor
