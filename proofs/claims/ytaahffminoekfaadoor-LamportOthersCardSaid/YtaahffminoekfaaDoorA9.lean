import Derived.Test.YtaahffminoekfaaDoorA8
import Derived.Laws.BytesArg
namespace Go.Proofs.YtaahffminoekfaaDoor
open Go.RowKit
/-- A digit's letter. -/
def digI (d : Int) : Int := if d < 10 then 48 + d else 87 + d
def showI (h : List Int) : List Int := h.flatMap fun x => [digI (x / 16), digI (x % 16)]
def digits16 : ByteArray := ⟨#[48, 49, 50, 51, 52, 53, 54, 55, 56, 57, 97, 98, 99, 100, 101, 102]⟩
set_option maxRecDepth 100000 in
theorem digit_at (n : Nat) (h : n < 16) : ∀ W : World, (Instr.index 9 (.string digits16) (.int .u8 (n : Int))).run Tryd.prog W = .ok (.int .u8 (digI n)) W := by
  match n, h with
  | 0, _ | 1, _ | 2, _ | 3, _ | 4, _ | 5, _ | 6, _ | 7, _ | 8, _ | 9, _ | 10, _ | 11, _ | 12, _ | 13, _ | 14, _ | 15, _ => exact fun _ => (by kernel_rfl)
  | n + 16, h => exact absurd h (by omega)
theorem digit_of (d : Int) (h0 : 0 ≤ d) (h1 : d < 16) (W : World) : (Instr.index 9 (.string digits16) (.int .u8 d)).run Tryd.prog W = .ok (.int .u8 (digI d)) W := by
  obtain ⟨n, rfl⟩ := Int.eq_ofNat_of_zero_le h0
  exact digit_at n (by omega) W
theorem own_string {P : Program} {w : World} {base n : Nat} {src dst : TypeId} {v : Value} {xs : List Int} (hs : P.underlying src = some (.slice 5)) (he : P.underlying 5 = some (.int .u8)) (hd : P.underlying dst = some .string)
    (h : w.ownsRow base 5 1 v n (u8s xs)) : (convert src dst v).run P w = .ok (.string (strOfNums xs)) w := by
  have hl : xs.length = n := by have := h.1; rw [u8s_len] at this; omega
  rcases h.2 with ⟨rfl, h0⟩ | ⟨g, cap, cur, rfl, _⟩
  · obtain rfl : xs = [] := List.eq_nil_of_length_eq_zero (by omega)
    exact run_convert_bytes_nil w src 5 hs he 0 0 dst hd
  · refine run_convert_bytes_arg w src 5 hs he g 0 n cap xs hl (fun i hi => ?_) dst hd
    have hc := h.cells (g := g) rfl i (.int .u8 (xs.getD i 0)) (u8s_at (by omega))
    rwa [addr_add] at hc
theorem index25 (h : List Int) (k : Nat) (hl : h.length = 32) (hk : k < 32) (W : World) : (Instr.index 25 (.agg (u8s h).toArray) (.int .i64 (k : Int))).run Tryd.prog W = .ok (.int .u8 (h.getD k 0)) W := by
  have hk2 : (k : Int) < 32 := by omega
  have hat := u8s_at (l := h) (j := k) (by omega)
  simp [Instr.index, go_sem, hat]
  omega
def ShowPost (h : List Int) (w : World) (e : Ending) (w' : World) : Prop := e = .returned (.string (strOfNums (showI h))) ∧ Below w.heap.size w w'
set_option maxRecDepth 100000 in
set_option maxHeartbeats 1000000 in
theorem show_any (h : List Int) (w : World) (hl : h.length = 32) (hb : Bytes h) :
    Calls Tryd.prog 36 #[hashV h] w (ShowPost h w) := by
  obtain ⟨hc, hhc⟩ : ∃ hc, (u8s h).toArray = hc := ⟨_, rfl⟩
  have hsz := u8s_size hl
  have hone : hc.all (·.oneCell') = true := by rw [← hhc]; exact all_one (u8s_one _)
  unfold hashV
  rw [hhc] at hsz ⊢
  have HSZ := Lib.hid hsz
  have HON := Lib.hid hone
  have HHC := Lib.hid hhc
  have HB := Lib.hid hb
  have HL := Lib.hid hl
  clear hsz hone hhc hb hl
  go_enter Tryd.func36, Tryd.ntmps36
  have hgl : (w.alloc (.cells hc 25)).heap[w.heap.size]? = some (.cells hc 25 (0, 0)) := heap_alloc_last _ _
  have HGL := Lib.hid hgl
  clear hgl
  go_wp2_with (refine wpList_load_row rfl 25 (.tmp 1) rfl w.heap.size (by rfl) 25 hc (0, 0) _ HGL.out Tryd.underlying25 rfl HSZ.out ?_)
  obtain ⟨W0, hW0⟩ : ∃ W0, W0 = w.alloc (.cells hc 25) := ⟨_, rfl⟩
  rw [← hW0]
  have hb0 : Hid (Below w.heap.size w W0) := by rw [hW0]; exact Lib.hid ((Below.refl _ _).alloc (Nat.le_refl _) _)
  clear hW0 HGL
  go_loopw [3, 7] (fun v i wr => ∃ (k c : Nat) (A : Option Addr), k ≤ 32 ∧ v = .slice A (2 * k) c ∧ i = .int .i64 k ∧ wr.ownsRow w.heap.size 5 1 (.slice A (2 * k) c) (2 * k) (u8s (showI (h.take k))) ∧ Below w.heap.size w wr) (fun _ i _ => 32 - (intOf i).toNat)
  case atStart => exact ⟨0, 0, none, by omega, rfl, rfl, World.ownsRow_nil _ _ _ _, hb0.out⟩
  case round =>
    obtain ⟨k, c, A, hk, rfl, rfl, ho, hb⟩ := hrel
    have HO := Lib.hid ho
    have HBW := Lib.hid hb
    clear ho hb hb0
    by_cases hk32 : k < 32
    · have i0 := index25 h k HL.out hk32
      rw [HHC.out] at i0
      obtain ⟨x, hx⟩ : ∃ x, h.getD k 0 = x := ⟨_, rfl⟩
      rw [hx] at i0
      obtain ⟨x0, x1⟩ : 0 ≤ x ∧ x ≤ 255 := by rw [← hx]; exact HB.out k
      have HX := Lib.hid hx
      clear hx
      have i1 := digit_of (x / 16) (by omega) (by omega)
      have i2 := digit_of (x % 16) (by omega) (by omega)
      unfold digits16 at i1 i2
      have hx15 := Go.u8_and15 (x := x) x0 (by omega)
      obtain ⟨A2, c2, w2, hrun, ho2, hc2, hb2⟩ := push_run (P := Tryd.prog) wr.drew 22 22 w.heap.size 5 (.int .u8 0) 1 Tryd.underlying22 (by kernel_rfl) rfl _ _ _ (own_chg HO.out ((Chg.refl (fun _ => False) wr).drew) (fun _ _ h => h)) [.int .u8 (digI (x / 16)), .int .u8 (digI (x % 16))] 2 rfl (by simp [Value.oneCell']) (by omega) (by omega) HBW.out.size
      have HO2 := Lib.hid ho2
      have HC2 := Lib.hid hc2
      have HR2 := Lib.hid hrun
      clear ho2 hc2 hb2 hrun
      go_wp2_with fail
      go_region_law ((refine step_run_append (by rfl) _ _ 22 (by rfl) _ _ (by rfl) (by rfl) 22 (by rfl) HR2.out ?_))
      all_goals
        go_wp2
        go_roundw
        case rel =>
          refine ⟨k + 1, c2, A2, hk32, by rw [Nat.mul_add], by go_num, ?_, ?_⟩
          · have := HO2.out
            have hkl : k < h.length := by rw [HL.out]; exact hk32
            have e1 : showI (h.take (k + 1)) = showI (h.take k) ++ [digI (x / 16), digI (x % 16)] := by
              rw [List.take_succ_eq_append_getElem hkl, showI, List.flatMap_append, ← showI]
              have : h[k] = x := by rw [← HX.out, List.getD_eq_getElem?_getD, List.getElem?_eq_getElem hkl]; rfl
              simp [this]
            rw [e1]
            simpa [u8s, Nat.mul_add] using this
          · have h3 := (Chg.of_below HBW.out (fun _ => False)).drew
            exact ((h3.mono (T := fun i => w.heap.size ≤ i) (fun _ _ h => h.elim)).then HC2.out (fun i hi => .inl (HO.out.lt i hi).1)).below (Nat.le_refl _) (fun _ h => h)
        case measure => simp [intOf]; omega
    · obtain rfl : k = 32 := by omega
      have hs := own_string Tryd.underlying22 Tryd.underlying5 Tryd.underlying9 HO.out
      rw [List.take_of_length_le (by rw [HL.out]; omega)] at hs
      go_wp2
      go_ret
      exact ⟨rfl, HBW.out⟩
end Go.Proofs.YtaahffminoekfaaDoor
