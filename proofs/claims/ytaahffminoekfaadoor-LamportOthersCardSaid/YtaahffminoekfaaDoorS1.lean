/-
  A digit's number; the hash of a text.
-/
import Derived.Test.YtaahffminoekfaaDoorO1
import Derived.Test.YtaahffminoekfaaDoorP2
import Derived.Deep.RegionWith
namespace Go.Proofs.YtaahffminoekfaaDoor
open Go.RowKit
/-- A digit's number; below 0: it is none. -/
def halfI (c : Int) : Int := if 48 ≤ c ∧ c ≤ 57 then c - 48 else if 97 ≤ c ∧ c ≤ 102 then c - 87 else -1
def digsI : List Int := [48, 49, 50, 51, 52, 53, 54, 55, 56, 57, 97, 98, 99, 100, 101, 102]
theorem half_index (n : Nat) (h : n < 256) : Lib.indexByte (Lib.bytesOf digsI) ((n : Int).toNat.toUInt8) = halfI n := by
  have : ∀ n : Fin 256, Lib.indexByte (Lib.bytesOf digsI) ((n : Nat) : Int).toNat.toUInt8 = halfI ((n : Nat) : Int) := by decide +kernel
  exact this ⟨n, h⟩
theorem half_of (c : Int) (h0 : 0 ≤ c) (h1 : c ≤ 255) : Lib.indexByte (Lib.bytesOf digsI) (c.toNat.toUInt8) = halfI c := by
  obtain ⟨n, rfl⟩ := Int.eq_ofNat_of_zero_le h0
  exact half_index n (by omega)
theorem halfI_dig (d : Int) (h0 : 0 ≤ d) (h1 : d < 16) : halfI (digI d) = d := by
  unfold halfI digI
  split <;> split <;> first | omega | (split <;> omega)
theorem digI_half (c : Int) (h : 0 ≤ halfI c) : digI (halfI c) = c := by
  unfold halfI digI at *
  split at h <;> rename_i h1
  · rw [if_pos h1, if_pos (by omega)]; omega
  · split at h <;> rename_i h2
    · rw [if_neg h1, if_pos h2, if_neg (by omega)]; omega
    · omega
theorem halfI_bd (c : Int) : -1 ≤ halfI c ∧ halfI c < 16 := by
  unfold halfI
  split
  · omega
  · split <;> omega
set_option maxRecDepth 100000 in
theorem bindex_any (w : World) (v : Value) (xs : List Int) (h : SlB w v xs) (hp : 0 < xs.length) (c : Int) :
    Calls Tryd.prog 83 #[v, .int .u8 c] w fun e w' => e = .returned (.int .i64 (Lib.indexByte (Lib.bytesOf xs) c.toNat.toUInt8)) ∧ w' = w := by
  obtain ⟨b, off, cp, rfl, _⟩ := h.form hp
  have HR := Lib.hid (Lib.run_indexByteSlice (P := Tryd.prog) w b off xs.length cp xs rfl h.at_ c)
  clear h hp
  go_enter Tryd.func83, Tryd.ntmps83
  go_wp2
  rw [run_callFunc_extern Tryd.func91 (by kernel_rfl) (by kernel_rfl) (by kernel_rfl) (e := Extern.BytealgIndexByte.indexByte) (by kernel_rfl), HR.out]
  simp only [Result.andThen]
  rw [Oper.upon_value]
  go_wp2
  go_ret
  exact ⟨rfl, rfl⟩
set_option maxRecDepth 100000 in
theorem half_any (w : World) (c : Int) (h0 : 0 ≤ c) (h1 : c ≤ 255) :
    Calls Tryd.prog 66 #[.int .u8 c] w fun e w' => e = .returned (.int .i64 (halfI c)) ∧ Below w.heap.size w w' := by
  have hhi := half_of c h0 h1
  obtain ⟨W1, hW1⟩ : ∃ W1, W1 = w.alloc (.cells (u8s digsI).toArray 5 (16, 17)) := ⟨_, rfl⟩
  have c1 : Chg (fun _ => False) w W1 := by rw [hW1]; exact (Chg.refl _ w).alloc _
  have hr1 : W1.heap[w.heap.size]? = some (.cells (u8s digsI).toArray 5 (16, 17)) := by rw [hW1, heap_alloc_last]
  have hsl : SlB W1 (.slice (some ⟨w.heap.size, 0, none⟩) 16 16) digsI := SlB.mk rfl (by omega) (by omega) (fun j hj => by
    rw [cell_of_row _ _ _ _ _ _ hr1, Nat.zero_add]
    simpa using u8s_at hj)
  have hs := bindex_any W1 _ digsI hsl (by decide) c
  rw [hhi] at hs
  have hW2 : W1 = w.alloc (.cells #[.int .u8 48, .int .u8 49, .int .u8 50, .int .u8 51, .int .u8 52, .int .u8 53, .int .u8 54, .int .u8 55, .int .u8 56, .int .u8 57, .int .u8 97, .int .u8 98, .int .u8 99, .int .u8 100, .int .u8 101, .int .u8 102] 5 (16, 17)) := hW1
  obtain ⟨r, hr⟩ : ∃ r, halfI c = r := ⟨_, rfl⟩
  rw [hr] at hs ⊢
  have HS := Lib.hid hs
  have HC := Lib.hid c1
  have HW := Lib.hid hW2
  clear hs c1 hsl hr1 hW1 hW2 hhi hr
  have kc := fun (w : World) (C : Array Value) (n c : Nat) => Lib.run_convert_bytes_const (P := Tryd.prog) w 22 5 C n c Tryd.underlying22 Tryd.underlying5
  go_enter Tryd.func66, Tryd.ntmps66
  go_wp2_with fail
  rw [← HW.out]
  clear kc
  refine HS.out.mono ?_
  rintro e W2 ⟨rfl, rfl⟩
  go_wp2
  go_ret
  exact ⟨rfl, HC.out.below_none (fun _ _ h => h)⟩
/-- A byte of a text. -/
theorem index9 (ns : List Int) (k : Nat) (hb : Bytes ns) (hk : k < ns.length) (W : World) : (Instr.index 9 (.string (strOfNums ns)) (.int .i64 (k : Int))).run Tryd.prog W = .ok (.int .u8 (ns.getD k 0)) W := by
  rw [run_index_string _ _ _ _ _ Tryd.underlying9, dif_pos ⟨by omega, by rw [strOfNums_size]; omega⟩]
  have hg : (strOfNums ns)[(k : Int).toNat]'(by rw [strOfNums_size]; omega) = UInt8.ofNat (ns.getD k 0).toNat := by
    show (strOfNums ns).data[k]'_ = _
    simp [strOfNums, List.getD_eq_getElem?_getD, List.getElem?_eq_getElem hk]
  rw [hg]
  have hx := hb k
  obtain ⟨x, hx2⟩ : ∃ x, ns.getD k 0 = x := ⟨_, rfl⟩
  rw [hx2] at hx ⊢
  have hn : (UInt8.ofNat x.toNat).toNat = x.toNat := by
    rw [UInt8.toNat_ofNat']
    omega
  rw [hn, Int.toNat_of_nonneg hx.1]
/-- The hash that a text stands for. -/
def decI (ns : List Int) : List Int := (List.range 32).map fun i => 16 * halfI (ns.getD (2 * i) 0) + halfI (ns.getD (2 * i + 1) 0)
theorem showI_len (h : List Int) : (showI h).length = 2 * h.length := by
  induction h with
  | nil => rfl
  | cons x h ih =>
    show ([digI (x / 16), digI (x % 16)] ++ showI h).length = _
    rw [List.length_append, ih]
    simp
    omega
theorem showI_at : ∀ (h : List Int) (i : Nat), i < h.length → (showI h).getD (2 * i) 0 = digI (h.getD i 0 / 16) ∧ (showI h).getD (2 * i + 1) 0 = digI (h.getD i 0 % 16)
  | [], i, hi => by simp at hi
  | x :: h, 0, _ => by
    show ([digI (x / 16), digI (x % 16)] ++ showI h).getD (2 * 0) 0 = _ ∧ ([digI (x / 16), digI (x % 16)] ++ showI h).getD (2 * 0 + 1) 0 = _
    exact ⟨rfl, rfl⟩
  | x :: h, i + 1, hi => by
    have ih := showI_at h i (by simpa using hi)
    show ([digI (x / 16), digI (x % 16)] ++ showI h).getD (2 * (i + 1)) 0 = _ ∧ ([digI (x / 16), digI (x % 16)] ++ showI h).getD (2 * (i + 1) + 1) 0 = _
    have e1 : ([digI (x / 16), digI (x % 16)] ++ showI h).getD (2 * (i + 1)) 0 = (showI h).getD (2 * i) 0 := by
      rw [show 2 * (i + 1) = 2 * i + 2 by omega]; rfl
    have e2 : ([digI (x / 16), digI (x % 16)] ++ showI h).getD (2 * (i + 1) + 1) 0 = (showI h).getD (2 * i + 1) 0 := by
      rw [show 2 * (i + 1) + 1 = 2 * i + 1 + 2 by omega]; rfl
    rw [e1, e2]
    exact ih
theorem decI_len (ns : List Int) : (decI ns).length = 32 := by simp [decI]
theorem decI_at (ns : List Int) (i : Nat) (h : i < 32) : (decI ns).getD i 0 = 16 * halfI (ns.getD (2 * i) 0) + halfI (ns.getD (2 * i + 1) 0) := by
  simp [decI, List.getD_eq_getElem?_getD, h]
theorem decI_bytes (ns : List Int) (h : ∀ i, i < 64 → 0 ≤ halfI (ns.getD i 0)) : Bytes (decI ns) := by
  intro j
  by_cases hj : j < 32
  · rw [decI_at ns j hj]
    have := h (2 * j) (by omega)
    have := h (2 * j + 1) (by omega)
    have := halfI_bd (ns.getD (2 * j) 0)
    have := halfI_bd (ns.getD (2 * j + 1) 0)
    omega
  · rw [List.getD_eq_getElem?_getD, List.getElem?_eq_none (by rw [decI_len]; omega)]
    simp
theorem ext_getD {a b : List Int} (hl : a.length = b.length) (h : ∀ i, i < a.length → a.getD i 0 = b.getD i 0) : a = b := by
  apply List.ext_getElem hl
  intro i h1 h2
  have := h i h1
  rwa [List.getD_eq_getElem?_getD, List.getD_eq_getElem?_getD, List.getElem?_eq_getElem h1, List.getElem?_eq_getElem h2] at this
theorem show_dec (ns : List Int) (hl : ns.length = 64) (h : ∀ i, i < 64 → 0 ≤ halfI (ns.getD i 0)) : showI (decI ns) = ns := by
  apply ext_getD (by rw [showI_len, decI_len, hl])
  intro i hi
  rw [showI_len, decI_len] at hi
  have key := showI_at (decI ns) (i / 2) (by rw [decI_len]; omega)
  rw [decI_at ns (i / 2) (by omega)] at key
  have h1 := h (2 * (i / 2)) (by omega)
  have h2 := h (2 * (i / 2) + 1) (by omega)
  have b1 := halfI_bd (ns.getD (2 * (i / 2)) 0)
  have b2 := halfI_bd (ns.getD (2 * (i / 2) + 1) 0)
  rw [show (16 * halfI (ns.getD (2 * (i / 2)) 0) + halfI (ns.getD (2 * (i / 2) + 1) 0)) / 16 = halfI (ns.getD (2 * (i / 2)) 0) by omega,
    show (16 * halfI (ns.getD (2 * (i / 2)) 0) + halfI (ns.getD (2 * (i / 2) + 1) 0)) % 16 = halfI (ns.getD (2 * (i / 2) + 1) 0) by omega, digI_half _ h1, digI_half _ h2] at key
  rcases Nat.mod_two_eq_zero_or_one i with hm | hm
  · have : 2 * (i / 2) = i := by omega
    rw [this] at key
    exact key.1
  · have : 2 * (i / 2) + 1 = i := by omega
    rw [this] at key
    exact key.2
theorem show_halves (h : List Int) (hb : Bytes h) (i : Nat) (hi : i < 2 * h.length) : 0 ≤ halfI ((showI h).getD i 0) := by
  have key := showI_at h (i / 2) (by omega)
  have hx := hb (i / 2)
  rcases Nat.mod_two_eq_zero_or_one i with hm | hm
  · have : 2 * (i / 2) = i := by omega
    rw [this] at key
    rw [key.1, halfI_dig _ (by omega) (by omega)]
    omega
  · have : 2 * (i / 2) + 1 = i := by omega
    rw [this] at key
    rw [key.2, halfI_dig _ (by omega) (by omega)]
    omega
theorem dec_show (h : List Int) (hb : Bytes h) (hl : h.length = 32) : decI (showI h) = h := by
  apply ext_getD (by rw [decI_len, hl])
  intro i hi
  rw [decI_len] at hi
  rw [decI_at _ _ hi]
  have key := showI_at h i (by omega)
  have hx := hb i
  rw [key.1, key.2, halfI_dig _ (by omega) (by omega), halfI_dig _ (by omega) (by omega)]
  omega
end Go.Proofs.YtaahffminoekfaaDoor
