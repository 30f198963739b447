/-
  The sum of a key's parts, walked.
-/
import Derived.Test.YtaahffminoekfaaDoorT7
namespace Go.Proofs.YtaahffminoekfaaDoor
open Go.RowKit
/-- Element r of a slice of hashes, as a slice of bytes. -/
def eltV (A : Option Addr) (r : Nat) : Value := match A with
  | some a => .slice (some ⟨a.block, a.off + r * 32, none⟩) 32 32
  | none => .slice none 0 0
theorem own_slbb {w : World} {base n c : Nat} {B : Option Addr} {vals : List Value} {ls : List (List Int)} (h : w.ownsRow base 22 1 (.slice B n c) n vals) (hl : ls.length = n) (hv : vals.length = n)
    (each : ∀ r, r < n → SlB w (vals.getD r (.int .u8 0)) (ls.getD r []) ∧ Bytes (ls.getD r [])) : SlBB w (.slice B n c) ls := by
  subst hl
  rcases h.2 with ⟨h1, h0⟩ | ⟨g, cap, cur, he, _, hg, h1, h2, _⟩
  · refine .inl ⟨h1, List.eq_nil_of_length_eq_zero h0⟩
  · injection he with h3 h4 h5
    subst h3 h5
    refine .inr ⟨⟨g, 0, none⟩, c, fun r => vals.getD r (.int .u8 0), rfl, h1, h2, fun r hr => ⟨?_, each r hr⟩⟩
    exact h.cells rfl r _ (by simp [List.getD_eq_getElem?_getD, List.getElem?_eq_getElem (show r < vals.length by omega)])
def eltVs (A : Option Addr) (k : Nat) : List Value := (List.range k).map (eltV A)
theorem eltVs_succ (A : Option Addr) (k : Nat) : eltVs A (k + 1) = eltVs A k ++ [eltV A k] := by
  unfold eltVs; rw [List.range_succ, List.map_append]; rfl
theorem eltVs_at (A : Option Addr) (k r : Nat) (h : r < k) : (eltVs A k).getD r (.int .u8 0) = eltV A r := by
  unfold eltVs; simp [List.getD_eq_getElem?_getD, h]
theorem SlH.elt {w : World} {A : Option Addr} {n cap : Nat} {hs : List (List Int)} (h : SlH w (.slice A n cap) hs) (r : Nat) (hr : r < hs.length) : SlB w (eltV A r) (hs.getD r []) ∧ Bytes (hs.getD r []) := by
  obtain ⟨b, off, c, he, _⟩ := h.form (by omega)
  injection he with h1 h2 h3
  subst h1
  refine ⟨?_, (h.lens r hr).2⟩
  have := h.row r hr
  rwa [Nat.mul_comm] at this
set_option maxRecDepth 100000 in
set_option maxHeartbeats 2000000 in
theorem public_any (v : Value) (hs : List (List Int)) (w : World) (h : SlH w v hs) (hlen : hs.length ≤ 10000) (hla : Laid w) :
    Calls Tryd.prog 39 #[v] w (SumPost (4 :: hs.flatten) w) := by
  have hl2 := hla.lt
  have hsh : ∃ A c, v = .slice A hs.length c := by
    rcases h with ⟨rfl, rfl⟩ | ⟨a, c, rfl, _⟩
    · exact ⟨_, _, rfl⟩
    · exact ⟨_, _, rfl⟩
  obtain ⟨A, ac, rfl⟩ := hsh
  have HV := Lib.hid h
  have HLA := Lib.hid hla
  clear h hla
  go_enter Tryd.func39, Tryd.ntmps39
  go_wp2_with fail
  obtain ⟨W0, hW0⟩ : ∃ W0, W0 = w.alloc (.cells ((List.replicate 32 (Value.int .u8 0)).toArray) 25) := ⟨_, rfl⟩
  rw [lit32, ← hW0]
  have C0 : Hid (Chg (fun i => w.heap.size < i) w W0) := Lib.hid (by rw [hW0]; exact (Chg.refl _ w).alloc _)
  have R0 : Hid (W0.heap[w.heap.size]? = some (.cells ((List.replicate 32 (Value.int .u8 0)).toArray) 25 (0, 0))) := Lib.hid (by rw [hW0, heap_alloc_last])
  have hz0 : w.heap.size + 1 ≤ W0.heap.size := by rw [hW0]; simp
  clear hW0
  go_loopw [3, 7] (fun o i wr => ∃ (k c : Nat) (B : Option Addr), k ≤ hs.length ∧ i = .int .i64 k ∧ o = .slice B k c ∧ wr.ownsRow (w.heap.size + 1) 22 1 (.slice B k c) k (eltVs A k) ∧
    wr.heap[w.heap.size]? = some (.cells ((List.replicate 32 (Value.int .u8 0)).toArray) 25 (0, 0)) ∧ Chg (fun i => w.heap.size < i) w wr) (fun _ i _ => hs.length - (intOf i).toNat)
  case atStart => exact ⟨0, 0, none, by omega, rfl, rfl, World.ownsRow_nil _ _ _ _, R0.out, C0.out⟩
  case round =>
    clear C0 R0 hz0
    rename World => wo
    obtain ⟨k, c, B, hk, rfl, rfl, ho, hr, hc⟩ := hrel
    have HO := Lib.hid ho
    have HR := Lib.hid hr
    have HC := Lib.hid hc
    have hwz : w.heap.size < wo.heap.size := (Array.getElem?_eq_some_iff.1 hr).1
    clear ho hr hc
    by_cases hkl : (k : Int) < hs.length
    · obtain ⟨b, off, cap, hv, _, _, hbs, _⟩ := HV.out.form (by omega)
      injection hv with h1 h2 h3
      subst h1 h3
      obtain ⟨A2, c2, w2, hrun, ho2, hc2, _⟩ := push_run (P := Tryd.prog) wo 29 29 (w.heap.size + 1) 22 (.slice none 0 0) 24 Tryd.underlying29 (by kernel_rfl) rfl _ _ _ HO.out [.slice (some ⟨b, off + k * 32, none⟩) 32 32] 1 rfl (by simp [Value.oneCell']) (by omega) (by omega) hwz
      have HR2 := Lib.hid hrun
      have HO2 := Lib.hid ho2
      have HC2 := Lib.hid hc2
      clear hrun ho2 hc2 h2
      go_wp2_with (at_builtin; refine wpList_run_append rfl _ _ 29 rfl _ _ rfl rfl 29 rfl HR2.out ?_)
      go_roundw
      case rel =>
        refine ⟨k + 1, c2, A2, by omega, by go_num, rfl, ?_, ?_, ?_⟩
        · rw [eltVs_succ]; exact HO2.out
        · exact HC2.out.heap HR.out (fun he => by have := (HO.out.lt _ he).1; omega)
        · exact HC.out.then HC2.out (fun i hi => .inl (by have := (HO.out.lt i hi).1; omega))
      case measure => simp [intOf]; omega
    · obtain rfl : k = hs.length := by omega
      have hup : Chg (fun i => w.heap.size < i) w wo := HC.out
      have hsb : SlBB wo (.slice B hs.length c) hs := own_slbb HO.out rfl (by simp [eltVs]) (fun r hr => by
        rw [eltVs_at _ _ _ hr]
        exact (HV.out.chg hup (fun i hi => by omega)).elt r hr)
      have hsum := tagsum_any 4 _ _ wo hsb (by omega) (by omega) (by rw [flat_len32 _ (fun r hr => (HV.out.lens r hr).1)]; omega) (HLA.out.chg hup (by omega) (by omega))
      have HS := Lib.hid hsum
      clear hsb hsum hup
      go_wp2_with fail
      refine HS.out.mono ?_
      rintro e w2 ⟨rfl, b3⟩
      have H3 : Hid (w2.heap[w.heap.size]? = some (.cells ((List.replicate 32 (Value.int .u8 0)).toArray) 25 (0, 0))) := Lib.hid ((b3.block _ hwz).trans HR.out)
      have HUP : Hid (Chg (fun i => w.heap.size ≤ i) w w2) := Lib.hid ((HC.out.mono (T := fun i => w.heap.size ≤ i) (fun _ _ h => by omega)).then (Chg.of_below b3 (fun _ => False)) (fun i hi => hi.elim))
      clear b3
      obtain ⟨hc, hhc, _, hone, hold, hsz, _⟩ := hash_parts _ (hash_size (4 :: hs.flatten))
      have HSZ := Lib.hid hsz
      have HON := Lib.hid hone
      have HOL := Lib.hid hold
      have HHC := Lib.hid hhc
      rw [hhc]
      clear hsz hone hold hhc
      go_wp2_with (refine wpList_store_row rfl 25 (.tmp 2) (.tmp 19) rfl (w.heap.size) hc (by rfl) (by rfl) 25 _ H3.out HSZ.out HOL.out HON.out ?_)
      have hset := setRow_same w2 (w.heap.size) hc _ 25 (0, 0) H3.out
      refine bodyPost_ret (v := .agg hc) (results_cell_row rfl _ _ (w.heap.size) 25 hc (0, 0) _ (by rfl) hset Tryd.underlying25 rfl HSZ.out) rfl ?_
      exact ⟨by rw [HHC.out], (HUP.out.setRow (w.heap.size) (.inl (by omega)) hc).below (Nat.le_refl _) (fun _ h => h)⟩
set_option maxRecDepth 100000 in
set_option maxHeartbeats 2000000 in
theorem refNumber2_any (n : Int) (w : World) (h1 : -9223372036854775808 ≤ n) (h2 : n ≤ 9223372036854775807) :
    Calls Tryd.prog 40 #[.int .i64 n, .int .i64 2] w (RowPost 2 (num2 n) w) := by
  have hm : ∀ W : World, (Instr.makeSlice 22 (.int .i64 2) (.int .i64 2)).run Tryd.prog W = .ok (.slice (some ⟨W.heap.size, 0, none⟩) 2 2) (W.alloc (.cells (Array.replicate 2 (.int .u8 0)) 5)) := fun W => by kernel_rfl
  simp only [Array.replicate_succ, Array.replicate_zero, List.push_toArray, List.nil_append, List.cons_append] at hm
  go_enter Tryd.func40, Tryd.ntmps40
  go_wp2_with fail
  refine wp_loop_rounds 3 ?_
  rw [_root_.Go.rounds_succ]
  go_wp2
  rw [_root_.Go.rounds_succ]
  go_wp2
  rw [_root_.Go.rounds_succ]
  go_wp2
  go_ret
  exact ⟨_, 2, rfl, own_lit w (num2 n) (by simp [num2]), (Below.refl _ _).alloc (Nat.le_refl _) _⟩
set_option maxRecDepth 100000 in
set_option maxHeartbeats 2000000 in
theorem refNumber4_any (n : Int) (w : World) (h1 : -9223372036854775808 ≤ n) (h2 : n ≤ 9223372036854775807) :
    Calls Tryd.prog 40 #[.int .i64 n, .int .i64 4] w (RowPost 4 (num4 n) w) := by
  have hm : ∀ W : World, (Instr.makeSlice 22 (.int .i64 4) (.int .i64 4)).run Tryd.prog W = .ok (.slice (some ⟨W.heap.size, 0, none⟩) 4 4) (W.alloc (.cells (Array.replicate 4 (.int .u8 0)) 5)) := fun W => by kernel_rfl
  simp only [Array.replicate_succ, Array.replicate_zero, List.push_toArray, List.nil_append, List.cons_append] at hm
  go_enter Tryd.func40, Tryd.ntmps40
  go_wp2_with fail
  refine wp_loop_rounds 5 ?_
  rw [_root_.Go.rounds_succ]
  go_wp2
  rw [_root_.Go.rounds_succ]
  go_wp2
  rw [_root_.Go.rounds_succ]
  go_wp2
  rw [_root_.Go.rounds_succ]
  go_wp2
  rw [_root_.Go.rounds_succ]
  go_wp2
  go_ret
  have e : num4 n = [n / 256 / 256 / 256 % 256, n / 256 / 256 % 256, n / 256 % 256, n % 256] := by
    unfold num4
    rw [show n / 16777216 = n / 256 / 256 / 256 by omega, show n / 65536 = n / 256 / 256 by omega]
  rw [e]
  exact ⟨_, 4, rfl, own_lit w [n / 256 / 256 / 256 % 256, n / 256 / 256 % 256, n / 256 % 256, n % 256] (by simp), (Below.refl _ _).alloc (Nat.le_refl _) _⟩
end Go.Proofs.YtaahffminoekfaaDoor
