/-
  A letter as the document has it; All, walked.
-/
import Derived.Test.YtofmblkmfbioiaaN2
import Derived.Lib.Bytes
namespace Go.Proofs.Ytofmblkmfbioiaa
open Go.RowKit
theorem bytes_tail {x : Int} {l : List Int} (h : Bytes (x :: l)) : Bytes l := fun j => by simpa using h (j + 1)
theorem bytesOf_eq : ∀ (xs ys : List Int), Bytes xs → Bytes ys → ((Lib.bytesOf xs == Lib.bytesOf ys) = (xs == ys))
  | [], [], _, _ => rfl
  | [], _ :: _, _, _ => rfl
  | _ :: _, [], _, _ => rfl
  | x :: xs, y :: ys, h, k => by
    have ih := bytesOf_eq xs ys (bytes_tail h) (bytes_tail k)
    have hx := h 0
    have hy := k 0
    simp only [List.getD_cons_zero] at hx hy
    unfold Lib.bytesOf at ih ⊢
    rw [List.map_cons, List.map_cons, List.cons_beq_cons, List.cons_beq_cons, ih]
    congr 1
    rw [Bool.eq_iff_iff]
    simp only [beq_iff_eq]
    constructor
    · intro he
      have := congrArg UInt8.toNat he
      simp at this
      omega
    · rintro rfl; rfl
theorem str_eq (xs ys : List Int) (h : Bytes xs) (k : Bytes ys) : ((strOfNums xs).toList == (strOfNums ys).toList) = (xs == ys) := by
  rw [Lib.strOfNums_toList, Lib.strOfNums_toList]; exact bytesOf_eq xs ys h k
theorem str_add (xs ys : List Int) : strOfNums xs ++ strOfNums ys = strOfNums (xs ++ ys) := by
  apply ByteArray.ext
  show (strOfNums xs ++ strOfNums ys).data = _
  simp [strOfNums]
set_option maxRecDepth 100000 in
theorem sl_string {w : World} {v : Value} {xs : List Int} (h : SlB w v xs) : (convert 22 9 v).run Try.prog w = .ok (.string (strOfNums xs)) w := by
  rcases Nat.eq_zero_or_pos xs.length with h0 | h0
  · obtain rfl : xs = [] := List.eq_nil_of_length_eq_zero h0
    rcases h with ⟨rfl, _, _⟩ | ⟨⟨b, off, sp⟩, c, rfl, hl, hc, hc2, hr⟩
    · exact run_convert_bytes_nil w 22 5 Try.underlying22 Try.underlying5 0 0 9 Try.underlying9
    · simp [convert, run_underlying Try.underlying22, run_underlying Try.underlying9, run_underlying Try.underlying5, Conv.bytesToString, loadCells, loadCellsFrom, strOfNums]
      rfl
  · obtain ⟨b, off, c, rfl, hc, hc2⟩ := h.form h0
    exact run_convert_bytes_arg w 22 5 Try.underlying22 Try.underlying5 b off xs.length c xs rfl (fun i hi => h.at_ i hi) 9 Try.underlying9

theorem DatB.slb {w : World} {d : Value} {xs : List Int} (h : DatB w d xs) : SlB w d xs := by
  rcases h.2 with ⟨rfl, h0⟩ | ⟨g, cap, cur, rfl, _, hg, h1, h2, _⟩
  · obtain rfl : xs = [] := List.eq_nil_of_length_eq_zero h0
    exact .inl ⟨rfl, rfl, rfl⟩
  · exact .inr ⟨⟨g, 0, none⟩, cap, rfl, by rw [u8s_len]; omega, h1, by simpa [maxLen] using h2, fun j u hu => h.cells rfl j u hu⟩
/-- A letter's value as the document has it. -/
def refV (x : Let) : Value := .agg #[.int .i64 x.1, .int .i64 x.2.1, .string (strOfNums x.2.2)]
set_option maxRecDepth 100000 in
set_option maxHeartbeats 1000000 in
theorem ref_any (w : World) (f t : Int) (d : Value) (xs : List Int) (h : SlB w d xs) : Calls Try.prog 21 #[.agg #[.int .i64 f, .int .i64 t, d]] w (fun e w' => e = .returned (refV (f, t, xs)) ∧ Below w.heap.size w w') := by
  obtain ⟨A, c, rfl, _, _⟩ := h.shape
  obtain ⟨W0, hW0⟩ : ∃ W0, W0 = (w.alloc (.cells #[.int .i64 f, .int .i64 t, .slice A xs.length c] 29)).alloc (.cells #[.int .i64 0, .int .i64 0, .string ⟨#[]⟩] 49) := ⟨_, rfl⟩
  have hu0 : Up w W0 := by rw [hW0]; exact ((Chg.refl _ w).alloc _).alloc _
  have hr0 : W0.heap[w.heap.size + 1]? = some (.cells #[.int .i64 0, .int .i64 0, .string ⟨#[]⟩] 49 (0, 0)) := by
    rw [hW0]; have := heap_alloc_last (w.alloc (.cells #[.int .i64 f, .int .i64 t, .slice A xs.length c] 29)) (.cells #[.int .i64 0, .int .i64 0, .string ⟨#[]⟩] 49); rwa [World.size_alloc] at this
  have cv := sl_string (Src.chg h hu0 (fun _ _ _ h => h) (by decide))
  rw [hW0] at cv
  obtain ⟨st, hst⟩ : ∃ s, strOfNums xs = s := ⟨_, rfl⟩
  unfold refV
  dsimp only
  rw [hst] at cv ⊢
  have HU := Lib.hid hu0
  have HR0 := Lib.hid hr0
  have HW := Lib.hid hW0
  clear h hu0 hr0 hW0 hst
  go_enter Try.func21, Try.ntmps21
  go_wp2_with fail
  have hl : ((w.alloc (.cells #[.int .i64 f, .int .i64 t, .slice A xs.length c] 29)).alloc (.cells #[.int .i64 f, .int .i64 t, .string st] 49)).heap[w.heap.size + 1]? = some (.cells #[.int .i64 f, .int .i64 t, .string st] 49 (0, 0)) := by
    have := heap_alloc_last (w.alloc (.cells #[.int .i64 f, .int .i64 t, .slice A xs.length c] 29)) (.cells #[.int .i64 f, .int .i64 t, .string st] 49); rwa [World.size_alloc] at this
  refine bodyPost_ret (v := .agg #[.int .i64 f, .int .i64 t, .string st]) (results_cell_row rfl _ _ (w.heap.size + 1) 49 _ (0, 0) _ (by rfl) hl Try.underlying49 rfl (by kernel_rfl)) rfl ?_
  exact ⟨rfl, (((Chg.refl (fun _ => False) w).alloc _).alloc _).below_none (fun _ _ h => h)⟩
theorem rowC_at : ∀ (ls : List Let) (ds : List Value) (k : Nat), ds.length = ls.length → k < ls.length → (rowC ls ds)[3 * k]? = some (.int .i64 (ls.getD k default).1) ∧ (rowC ls ds)[3 * k + 1]? = some (.int .i64 (ls.getD k default).2.1) ∧ (rowC ls ds)[3 * k + 2]? = some (ds.getD k undef)
  | [], _, _, _, h => by simp at h
  | _ :: _, [], _, h, _ => by simp at h
  | x :: ls, d :: ds, 0, _, _ => by simp [rowC, letC]
  | x :: ls, d :: ds, k + 1, hd, hk => by
    have ih := rowC_at ls ds k (by simpa using hd) (by simpa using hk)
    have e : rowC (x :: ls) (d :: ds) = letC x d ++ rowC ls ds := by simp [rowC]
    have hl : (letC x d).length = 3 := rfl
    rw [e, List.getElem?_append_right (by omega), List.getElem?_append_right (by omega), List.getElem?_append_right (by omega), hl, show 3 * (k + 1) - 3 = 3 * k by omega, show 3 * (k + 1) + 1 - 3 = 3 * k + 1 by omega, show 3 * (k + 1) + 2 - 3 = 3 * k + 2 by omega]
    simpa using ih
theorem row_cells {w : World} {base g n c : Nat} {ls : List Let} {ds : List Value} (h : w.ownsRow base 29 3 (.slice (some ⟨g, 0, none⟩) n c) n (rowC ls ds)) (hd : ds.length = ls.length) (k : Nat) (hk : k < ls.length) :
    w.cell? ⟨g, k * 3, none⟩ = some (.int .i64 (ls.getD k default).1) ∧ w.cell? ⟨g, k * 3 + 1, none⟩ = some (.int .i64 (ls.getD k default).2.1) ∧ w.cell? ⟨g, k * 3 + 2, none⟩ = some (ds.getD k undef) := by
  obtain ⟨a, b, d⟩ := rowC_at ls ds k hd hk
  have h1 := h.cells rfl (3 * k) _ a
  have h2 := h.cells rfl (3 * k + 1) _ b
  have h3 := h.cells rfl (3 * k + 2) _ d
  rw [addr_add, Nat.zero_add, Nat.mul_comm] at h1
  rw [addr_add, Nat.zero_add, show 3 * k + 1 = k * 3 + 1 by omega] at h2
  rw [addr_add, Nat.zero_add, show 3 * k + 2 = k * 3 + 2 by omega] at h3
  exact ⟨h1, h2, h3⟩
end Go.Proofs.Ytofmblkmfbioiaa
