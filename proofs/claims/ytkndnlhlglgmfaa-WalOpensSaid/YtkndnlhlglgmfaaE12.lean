/-
  now, bytes.Equal, Sectors, slices.Clone, maps.Clone, walked.
-/
import Derived.Test.YtkndnlhlglgmfaaE11
import Derived.Laws.Externs
import Derived.Shelf.SlMaps.Clone
namespace Go.Proofs.Ytkndnlhlglgmfaa
open Go.RowKit
/-- What is in a sector now. -/
def nowI (x : Dk) (i : Int) : List Int := (x.ca i).getD (x.has.getD i.toNat [])
set_option maxRecDepth 100000 in
set_option maxHeartbeats 4000000 in
theorem now_any (w : World) (p b m : Nat) (sv : Value) (ss : List Value) (C : Int → Option Value) (x : Dk) (h : DiskAt w p b m sv ss C x) (hnb : x.has.length ≤ 65536) (k : Nat) (hk : k < x.has.length) :
    Calls Try.prog 55 #[.pointer (some ⟨p, 0, none⟩), .int .i64 k] w (fun e w' => ∃ v, e = .returned v ∧ DatB w v (nowI x k) ∧ w' = w) := by
  have c2 := h.c2
  have c1 := h.c1
  obtain ⟨A, cs, rfl⟩ := own_shape h.row
  rw [h.len] at c1
  have hlook := cache_look h.map (show I64 (k : Int) by unfold I64; omega)
  have HROW := Lib.hid h.row
  have H := Lib.hid h
  clear h
  unfold nowI
  cases hc : C k with
  | some v =>
    obtain ⟨_, _, xs, hca, hdat⟩ := H.out.key k v hc
    rw [hc] at hlook
    simp only [Option.getD_some, Option.isSome_some] at hlook
    rw [hca]
    have HDAT := Lib.hid hdat
    clear hdat hca hc
    · go_enter Try.func55, Try.ntmps55
      go_wp2_with fail
      go_ret
      exact ⟨_, rfl, HDAT.out, rfl⟩
  | none =>
    rw [H.out.non k hc]
    rw [hc] at hlook
    simp only [Option.getD_none, Option.isSome_none] at hlook
    rw [Int.toNat_natCast]
    have hdat := H.out.sec k hk
    simp only [Option.getD_none]
    obtain ⟨xs, hxs⟩ : ∃ xs, x.has.getD k [] = xs := ⟨_, rfl⟩
    rw [hxs] at hdat ⊢
    have hl := H.out.len
    obtain ⟨g, rfl⟩ : ∃ g, A = some ⟨g, 0, none⟩ := by
      rcases HROW.out.2 with ⟨_, hz⟩ | ⟨g, cap, cur, he, _⟩
      · omega
      · injection he with e1; exact ⟨g, e1⟩
    have hce := World.ownsRow.cells HROW.out rfl k _ (List.getElem?_eq_getElem (show k < ss.length by omega))
    rw [addr_add, Nat.zero_add] at hce
    obtain ⟨d, hd⟩ : ∃ d, ss[k]'(by omega) = d := ⟨_, rfl⟩
    rw [hd] at hce
    rw [show ss.getD k undef = d by rw [List.getD_eq_getElem?_getD, List.getElem?_eq_getElem (show k < ss.length by omega)]; exact hd] at hdat
    have HDAT := Lib.hid hdat
    have hk' : (k : Int) < x.has.length := by omega
    clear hdat hxs hd hc hl
    · go_enter Try.func55, Try.ntmps55
      go_wp2_with fail
      go_ret
      exact ⟨_, rfl, HDAT.out, rfl⟩
/-- Alike, as strings are. -/
def eqS (xs ys : List Int) : Bool := (strOfNums xs).toList == (strOfNums ys).toList
theorem eqS_refl (xs : List Int) : eqS xs xs = true := by unfold eqS; simp
set_option maxRecDepth 100000 in
set_option maxHeartbeats 4000000 in
theorem equal_any (w : World) (v u : Value) (xs ys : List Int) (hv : SlB w v xs) (hu : SlB w u ys) : Calls Try.prog 54 #[v, u] w (fun e w' => e = .returned (.bool (eqS xs ys)) ∧ w' = w) := by
  have h1 := sl_string hv
  have h2 := sl_string hu
  unfold eqS
  obtain ⟨s1, e1⟩ : ∃ s, strOfNums xs = s := ⟨_, rfl⟩
  obtain ⟨s2, e2⟩ : ∃ s, strOfNums ys = s := ⟨_, rfl⟩
  rw [e1] at h1 ⊢
  rw [e2] at h2 ⊢
  clear e1 e2 hv hu
  go_enter Try.func54, Try.ntmps54
  go_wp2_with fail
  go_ret
  exact ⟨rfl, rfl⟩
set_option maxRecDepth 100000 in
set_option maxHeartbeats 4000000 in
theorem sectors_any (w : World) (p b m : Nat) (sv : Value) (ss : List Value) (C : Int → Option Value) (x : Dk) (h : DiskAt w p b m sv ss C x) : Calls Try.prog 53 #[.pointer (some ⟨p, 0, none⟩)] w (fun e w' => e = .returned (.int .i64 x.has.length) ∧ w' = w) := by
  obtain ⟨A, cs, rfl⟩ := own_shape h.row
  have c1 := h.c1
  rw [h.len] at c1
  clear h
  go_enter Try.func53, Try.ntmps53
  go_wp2_with fail
  go_ret
  exact ⟨rfl, rfl⟩
set_option maxRecDepth 100000 in
set_option maxHeartbeats 4000000 in
theorem sclone_any (w : World) (v : Value) (us : List Value) (hs : Src w v 1 us.length us) (hone : ∀ u ∈ us, u.oneCell' = true) (hn : us.length ≤ 65536) :
    Calls Try.prog 56 #[v] w (fun e w' => ∃ v', e = .returned v' ∧ w'.ownsRow w.heap.size 28 1 v' us.length us ∧ Below w.heap.size w w') := by
  have hq := fun (W : World) (A : Option Addr) (n c : Nat) => Lib.run_eql_slice_nil (P := Try.prog) W 74 28 A n c 0 0 Try.underlying74
  have HONE := Lib.hid hone
  clear hone
  rcases hs with ⟨rfl, h0, h1⟩ | ⟨ad, c, rfl, hl, hc, hc2, hr⟩
  · go_enter Try.func56, Try.ntmps56
    go_wp2_with fail
    go_ret
    refine ⟨_, rfl, ?_, Below.refl _ _⟩
    rw [h1]
    exact World.ownsRow_nil _ _ _ _
  · have HS : Hid (Src w (.slice (some ad) us.length c) 1 us.length us) := Lib.hid (.inr ⟨ad, c, rfl, hl, hc, hc2, hr⟩)
    clear hl hr
    go_enter Try.func56, Try.ntmps56
    go_wp2_with (at_builtin; refine ap_own rfl _ _ 74 rfl w.heap.size 28 (.slice none 0 0) 1 24 Try.underlying74 (by kernel_rfl) rfl (by decide) _ 0 [] rfl ?_ _ rfl us.length us ?_ HONE.out (by omega) (by omega) (by simp) ?_)
    case refine_1 => exact World.ownsRow_made w #[] 0 (Nat.le_refl _) (by simp [maxLen]) (by simp)
    case refine_2 => exact HS.out.chg ((Chg.refl (fun _ => False) w).alloc _) (fun _ _ _ h => h) (by decide)
    case refine_3 =>
      intro v' w' ho hg hn hb
      go_wp2_with fail
      go_ret
      exact ⟨_, rfl, ho, (((Chg.refl (fun _ => False) w).alloc _).then (Chg.of_grownBy hg) (fun i hi => .inr (by simp [Value.ownBlock] at hi; omega))).below_none (fun _ _ h => h)⟩
set_option maxRecDepth 100000 in
set_option maxHeartbeats 4000000 in
theorem mclone_any (w : World) (b : Nat) (es : Array MapEntry) (clock : Nat) (hb : w.heap[b]? = some (.map es clock)) :
    Calls Try.prog 57 #[.map (some b)] w (fun e w' => e = .returned (.map (some w.heap.size)) ∧ w' = w.alloc (.map es clock)) := by
  have hq := fun w => run_eql_map_nil_sl (P := Try.prog) w 79 _ _ (some b) Try.underlying79
  go_enter Try.func57, Try.ntmps57
  go_wp2
  rw [run_callFunc_extern Try.func76 (by kernel_rfl) (by kernel_rfl) (by kernel_rfl) (e := Extern.MapsClone.clone) (by kernel_rfl), run_maps_clone_sl w 79 hb]
  simp only [Result.andThen]
  rw [Oper.upon_value]
  go_wp2
  rw [run_typeAssert_map_sl _ 79 20 _ _ _ Try.underlying79]
  simp only [Result.andThen]
  rw [Oper.upon_value]
  go_wp2
  go_ret
  exact ⟨rfl, rfl⟩
theorem CacheAt.clone {w : World} {b m : Nat} {C : Int → Option Value} (h : CacheAt w b m C) : ∃ es clock, w.heap[b]? = some (.map es clock) ∧ CacheAt (w.alloc (.map es clock)) w.heap.size m C := by
  obtain ⟨D, ⟨es, clock, hb, F, hs, hD⟩, hv⟩ := h
  exact ⟨es, clock, hb, D, ⟨es, clock, (MapKept.heap_alloc w _).1, F, hs, hD⟩, hv⟩
end Go.Proofs.Ytkndnlhlglgmfaa
