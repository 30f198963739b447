/-
  Between, walked.
-/
import Derived.Test.YtofmblkmfbioiaaN30
namespace Go.Proofs.Ytofmblkmfbioiaa
open Go.RowKit
theorem filter_zip (ls : List Let) (ds : List Value) (h : ds.length = ls.length) (a b : Int) : ((ls.zip ds).filter (qz a b)).map (·.1) = ls.filter (keepB a b) := by
  have e : (ls.zip ds).map Prod.fst = ls := List.map_fst_zip (by omega)
  conv => rhs; rw [← e]
  rw [List.filter_map]
  rfl
set_option maxRecDepth 100000 in
set_option maxHeartbeats 4000000 in
theorem net_between (w : World) (p : Nat) (lv : Value) (ds : List Value) (ls : List Let) (sent : Int) (h : NetAt w p lv ds ls sent) (hn : ls.length ≤ 1024) (hx : ∀ j, j < ls.length → (ls.getD j default).2.2.length ≤ 1000000) (a b : Int) :
    Calls Try.prog 22 #[.pointer (some ⟨p, 0, none⟩), .int .i64 a, .int .i64 b] w (fun e w' => ∃ v ds', e = .returned v ∧ CopR w' w.heap.size v ds' (ls.filter (keepB a b)) ∧ Below w.heap.size w w') := by
  obtain ⟨W1, hW1⟩ : ∃ W, W = (w.alloc (.cells #[.int .i64 a] 3)).alloc (.cells #[.int .i64 b] 3) := ⟨_, rfl⟩
  have hu1 : Up w W1 := by rw [hW1]; exact ((Chg.refl _ w).alloc _).alloc _
  have ha1 : W1.heap[w.heap.size]? = some (.cells #[.int .i64 a] 3 (0, 0)) := by rw [hW1]; exact ((Chg.refl (fun _ => False) _).alloc _).heap (heap_alloc_last w _) (fun h => h)
  have hb1 : W1.heap[w.heap.size + 1]? = some (.cells #[.int .i64 b] 3 (0, 0)) := by rw [hW1]; have := heap_alloc_last (w.alloc (.cells #[.int .i64 a] 3)) (.cells #[.int .i64 b] 3); simpa using this
  have HALL := Lib.hid (all_any W1 p lv ds ls sent (h.up hu1) hn hx)
  have HU1 := Lib.hid hu1
  have HA1 := Lib.hid ha1
  have HB1 := Lib.hid hb1
  have HW1 := Lib.hid hW1
  clear h hx hu1 ha1 hb1 hW1
  go_enter Try.func22, Try.ntmps22
  go_wp2_with fail
  rw [← HW1.out]
  refine HALL.out.mono ?_
  rintro e W2 ⟨v, ds2, rfl, hcop, hb2⟩
  have hu2 := up_below hb2
  have hzl : (ls.zip ds2).length = ls.length := by rw [List.length_zip, hcop.1]; simp
  have HDEL := Lib.hid (deleteFunc_any W2 a b w.heap.size (w.heap.size + 1) (hu2.heap HA1.out (fun h => h)) (hu2.heap HB1.out (fun h => h)) _ v _ hcop.z (by rw [hzl]; exact hn))
  have HCOP := Lib.hid hcop
  have HB2 := Lib.hid hb2
  clear hcop hb2 hu2 hzl
  go_wp2_with fail
  refine HDEL.out.mono ?_
  rintro e W3 ⟨v3, rfl, hz3, hc3⟩
  have HZ3 := Lib.hid hz3
  have HC3 := Lib.hid hc3
  clear hz3 hc3
  go_wp2_with fail
  go_ret
  have hr := HZ3.out.r
  rw [filter_zip ls ds2 HCOP.out.1] at hr
  obtain ⟨r1, r2, r3⟩ := hr
  refine ⟨v3, _, rfl, ⟨r1, own_base r2 HU1.out.size, fun j hj => own_base (r3 j hj) HU1.out.size⟩, ?_⟩
  have hc : Chg (fun _ => False) w W3 := (HU1.out.trans (up_below HB2.out)).then HC3.out (fun i hi => .inr (by have := own_ge HCOP.out.2.1 i hi; have := HU1.out.size; omega))
  exact hc.below_none (fun _ _ h => h)
end Go.Proofs.Ytofmblkmfbioiaa
