/-
  The order of two hashes.
-/
import Derived.Test.YtaahffminoekfaaDoorL1
import Derived.Lib.BytesEntry
namespace Go.Proofs.YtaahffminoekfaaDoor
open Go.RowKit
theorem src_bytesOf {P : Program} {w : World} {v : Value} {xs : List Int} (h : SlB w v xs) : (Extern.Bytes.bytesOf v).run P w = .ok ⟨(Lib.bytesOf xs).toArray⟩ w := by
  rcases h with ⟨rfl, h0, _⟩ | ⟨a, c, rfl, _, _, _, hr⟩
  · obtain rfl : xs = [] := List.eq_nil_of_length_eq_zero h0
    rfl
  · have := Lib.run_loadBytesX (P := P) w xs a .empty (fun j x hj => hr j _ (by
      have hjl : j < xs.length := (List.getElem?_eq_some_iff.1 hj).1
      rw [u8s_at hjl, List.getD_eq_getElem?_getD, hj]; rfl))
    unfold Extern.Bytes.bytesOf
    rw [this]
    congr 1
    apply ByteArray.ext
    show (#[] : Array UInt8) ++ (Lib.bytesOf xs).toArray = (Lib.bytesOf xs).toArray
    simp
theorem run_compare {P : Program} {w : World} {v u : Value} {xs ys : List Int} (h : SlB w v xs) (k : SlB w u ys) :
    (Extern.BytealgCompare.compare #[v, u]).run P w = .ok (.int .i64 (Lib.compareBytes (Lib.bytesOf xs) (Lib.bytesOf ys))) w := by
  change Sem.run P (do pure (goInt (Extern.BytealgCompare.cmp (← Extern.Bytes.bytesOf v) (← Extern.Bytes.bytesOf u)))) w = _
  simp only [Sem.run_bind, src_bytesOf h, src_bytesOf k, Sem.run_pure, Result.andThen_ok]
  rw [Lib.cmp_eq]
  rfl
def cmpI : List Int → List Int → Int
  | a :: l, b :: m => if a < b then -1 else if b < a then 1 else cmpI l m
  | [], [] => 0
  | [], _ :: _ => -1
  | _ :: _, [] => 1
theorem bytes_tail {x : Int} {l : List Int} (h : Bytes (x :: l)) : Bytes l := fun j => by simpa using h (j + 1)
theorem u8_lt {a b : Int} (ha : 0 ≤ a ∧ a ≤ 255) (hb : 0 ≤ b ∧ b ≤ 255) : UInt8.ofNat a.toNat < UInt8.ofNat b.toNat ↔ a < b := by
  rw [UInt8.lt_iff_toNat_lt]
  simp
  omega
theorem cmp_bytes : ∀ (a b : List Int), Bytes a → Bytes b → Lib.compareBytes (Lib.bytesOf a) (Lib.bytesOf b) = cmpI a b
  | [], [], _, _ => rfl
  | [], _ :: _, _, _ => rfl
  | _ :: _, [], _, _ => rfl
  | x :: a, y :: b, h, k => by
    have hx := h 0
    have hy := k 0
    simp only [List.getD_cons_zero] at hx hy
    have ih := cmp_bytes a b (bytes_tail h) (bytes_tail k)
    unfold Lib.bytesOf at ih ⊢
    simp only [List.map_cons, Lib.compareBytes, cmpI]
    have e1 := u8_lt hx hy
    have e2 := u8_lt hy hx
    change (if UInt8.ofNat x.toNat < UInt8.ofNat y.toNat then _ else if UInt8.ofNat y.toNat < UInt8.ofNat x.toNat then _ else Lib.compareBytes (List.map (fun n => UInt8.ofNat n.toNat) a) (List.map (fun n => UInt8.ofNat n.toNat) b)) = _
    change Lib.compareBytes (List.map (fun n => UInt8.ofNat n.toNat) a) (List.map (fun n => UInt8.ofNat n.toNat) b) = _ at ih
    simp only [e1, e2, ih]
theorem cmpI_neg : ∀ (a b : List Int), cmpI b a = - cmpI a b
  | [], [] => rfl
  | [], _ :: _ => rfl
  | _ :: _, [] => rfl
  | x :: a, y :: b => by
    unfold cmpI
    rw [cmpI_neg a b]
    by_cases h1 : x < y
    · simp [h1, Int.not_lt.2 (Int.le_of_lt h1)]
    · by_cases h2 : y < x <;> simp [h1, h2]
theorem cmpI_bd : ∀ (a b : List Int), -1 ≤ cmpI a b ∧ cmpI a b ≤ 1
  | [], [] => by simp [cmpI]
  | [], _ :: _ => by simp [cmpI]
  | _ :: _, [] => by simp [cmpI]
  | x :: a, y :: b => by
    have := cmpI_bd a b
    unfold cmpI
    split
    · decide
    · split
      · decide
      · exact this
/-- The order, told from the last byte on. -/
theorem cmp_step (a b : List Int) (k : Nat) (ha : k < a.length) (hb : k < b.length) :
    cmpI (a.drop k) (b.drop k) = if a.getD k 0 < b.getD k 0 then -1 else if b.getD k 0 < a.getD k 0 then 1 else cmpI (a.drop (k + 1)) (b.drop (k + 1)) := by
  rw [List.drop_eq_getElem_cons ha, List.drop_eq_getElem_cons hb]
  simp [cmpI, List.getD_eq_getElem?_getD, List.getElem?_eq_getElem ha, List.getElem?_eq_getElem hb]
set_option maxRecDepth 100000 in
theorem bcompare_any (w : World) (v u : Value) (xs ys : List Int) (h : SlB w v xs) (k : SlB w u ys) (hx : Bytes xs) (hy : Bytes ys) :
    Calls Tryd.prog 64 #[v, u] w fun e w' => e = .returned (.int .i64 (cmpI xs ys)) ∧ w' = w := by
  have hr := run_compare (P := Tryd.prog) h k
  rw [cmp_bytes xs ys hx hy] at hr
  have HR := Lib.hid hr
  clear hr h k hx hy
  go_enter Tryd.func64, Tryd.ntmps64
  go_wp2
  rw [run_callFunc_extern Tryd.func82 (by kernel_rfl) (by kernel_rfl) (by kernel_rfl) (e := Extern.BytealgCompare.compare) (by kernel_rfl), HR.out]
  simp only [Result.andThen]
  rw [Oper.upon_value]
  go_wp2
  go_ret
  exact ⟨rfl, rfl⟩
theorem quiet_first {P : Program} {f : FuncId} {args : Array Value} {w : World} {n : Nat} {v : Value}
    (h : Calls P f args (w.drewN n) fun e w' => e = .returned v ∧ w' = w.drewN n) :
    Calls P f args (w.drewN n) fun e w'' => e = .returned v ∧ ∃ m, w'' = w.drewN m :=
  h.mono fun _ _ ⟨he, hm⟩ => ⟨he, n, hm⟩
/-- A whole array of bytes in a row of one's own. -/
theorem row_src {w : World} {g : Nat} {xs : List Int} {t : TypeId} (hg : w.heap[g]? = some (.cells (u8s xs).toArray t (0, 0))) (hl : xs.length = 32) : SlB w (.slice (some ⟨g, 0, none⟩) 32 32) xs :=
  SlB.mk hl.symm (Nat.le_refl _) (by omega) (fun j hj => by rw [Nat.zero_add, cell_of_row w g j _ _ _ hg]; simpa using u8s_at hj)
set_option maxRecDepth 100000 in
theorem cmp_any (w : World) (xs ys : List Int) (hx : Bytes xs) (hy : Bytes ys) (lx : xs.length = 32) (ly : ys.length = 32) :
    Calls Tryd.prog 29 #[hashV xs, hashV ys] w fun e w' => e = .returned (.int .i64 (cmpI xs ys)) ∧ Below w.heap.size w w' := by
  unfold hashV
  have hsx := u8s_size lx
  have hsy := u8s_size ly
  obtain ⟨cx, hcx⟩ : ∃ c, (u8s xs).toArray = c := ⟨_, rfl⟩
  obtain ⟨cy, hcy⟩ : ∃ c, (u8s ys).toArray = c := ⟨_, rfl⟩
  have onx : cx.all (·.oneCell') = true := by rw [← hcx]; exact all_one (u8s_one _)
  have ony : cy.all (·.oneCell') = true := by rw [← hcy]; exact all_one (u8s_one _)
  rw [hcx] at hsx ⊢
  rw [hcy] at hsy ⊢
  have HSX := Lib.hid hsx
  have HSY := Lib.hid hsy
  have HOX := Lib.hid onx
  have HOY := Lib.hid ony
  have HCX := Lib.hid hcx
  have HCY := Lib.hid hcy
  clear hsx hsy onx ony hcx hcy
  have key := fun (q : Nat) => bcompare_any (((w.alloc (.cells cx 25)).alloc (.cells cy 25)).drewN q) (.slice (some ⟨w.heap.size, 0, none⟩) 32 32) (.slice (some ⟨w.heap.size + 1, 0, none⟩) 32 32) xs ys
    (row_src (t := 25) (by rw [HCX.out]; show ((w.alloc (.cells cx 25)).alloc (.cells cy 25)).heap[w.heap.size]? = _; rw [Below.heap_alloc _ _ _ (by simp), heap_alloc_last]) lx)
    (row_src (t := 25) (by rw [HCY.out]; show ((w.alloc (.cells cx 25)).alloc (.cells cy 25)).heap[w.heap.size + 1]? = _; have := heap_alloc_last (w.alloc (.cells cx 25)) (.cells cy 25); rwa [World.size_alloc] at this) ly) hx hy
  have hbel : Below w.heap.size w ((w.alloc (.cells cx 25)).alloc (.cells cy 25)) := (((Below.refl _ _).alloc (Nat.le_refl _) _).alloc (by simp) _)
  have HB := Lib.hid hbel
  have KEY := Lib.hid key
  clear hbel key hx hy
  go_enter Tryd.func29, Tryd.ntmps29
  go_wp2_with fail
  obtain ⟨W0, hW0⟩ : ∃ W0, W0 = (w.alloc (.cells cx 25)).alloc (.cells cy 25) := ⟨_, rfl⟩
  rw [← hW0] at HB KEY ⊢
  clear hW0
  go_quiet ((go_at_call 64; exact quiet_first (KEY.out _)))
  go_wp2
  go_ret
  exact ⟨rfl, HB.out.trans ⟨rfl, rfl, rfl, Nat.le_refl _, fun _ _ => rfl⟩⟩
/-- A whole array is loaded by an operation behind a guard that holds. -/
theorem want_load_row {P : Program} {ops : Array Oper} {rest : List Oper} {o : Oper} {a : Act} {w : World} {Q : Exit → Act → World → Prop} (hw : Region.wanted o (yielded ops a.tmps) = true) (ty : TypeId) (x : Operand) (ho : o.op = .load ty x)
    (g : Nat) (hx : a.eval x = .pointer (some ⟨g, 0, none⟩)) (t : TypeId) (cs : Array Value) (fr : Nat × Nat) (d : TypeDesc) (hg : w.heap[g]? = some (.cells cs t fr))
    (hu : P.underlying ty = some d) (hd : (match d with | .struct _ | .array _ _ => true | _ => false) = true) (hi : (P.info? ty).map (·.size) = some cs.size)
    (h : wpList P ops Q rest (a.put o.dst (.agg cs)) w) : wpList P ops Q (o :: rest) a w :=
  wpList_step fun _ hK => by
    rw [if_pos hw]
    exact wp_load_row ty x ho g hx t cs fr d hg hu hd hi (hK _ _ h)
set_option maxRecDepth 100000 in
set_option maxHeartbeats 1000000 in
theorem orders_any (w : World) (xs ys : List Int) (hx : Bytes xs) (hy : Bytes ys) (lx : xs.length = 32) (ly : ys.length = 32) (hla : Laid w) :
    Calls Tryd.prog 6 #[hashV xs, hashV ys] w (TruePost w) := by
  have hl2 := hla.lt
  have Cmp1 := fun W => cmp_any W xs ys hx hy lx ly
  have Cmp2 := fun W => cmp_any W ys xs hy hx ly lx
  unfold hashV at Cmp1 Cmp2 ⊢
  have hsx := u8s_size lx
  have hsy := u8s_size ly
  obtain ⟨cx, hcx⟩ : ∃ c, (u8s xs).toArray = c := ⟨_, rfl⟩
  obtain ⟨cy, hcy⟩ : ∃ c, (u8s ys).toArray = c := ⟨_, rfl⟩
  have onx : cx.all (·.oneCell') = true := by rw [← hcx]; exact all_one (u8s_one _)
  have ony : cy.all (·.oneCell') = true := by rw [← hcy]; exact all_one (u8s_one _)
  rw [hcx, hcy] at Cmp1 Cmp2
  rw [hcx] at hsx ⊢
  rw [hcy] at hsy ⊢
  have hatx : ∀ k, k < 32 → cx[k]? = some (.int .u8 (xs.getD k 0)) := fun k hk => by rw [← hcx]; simpa using u8s_at (l := xs) (j := k) (by omega)
  have haty : ∀ k, k < 32 → cy[k]? = some (.int .u8 (ys.getD k 0)) := fun k hk => by rw [← hcy]; simpa using u8s_at (l := ys) (j := k) (by omega)
  have hgx : ((w.alloc (.cells cx 25)).alloc (.cells cy 25)).heap[w.heap.size]? = some (.cells cx 25 (0, 0)) := by rw [Below.heap_alloc _ _ _ (by simp), heap_alloc_last]
  have hgy : ((w.alloc (.cells cx 25)).alloc (.cells cy 25)).heap[w.heap.size + 1]? = some (.cells cy 25 (0, 0)) := by have := heap_alloc_last (w.alloc (.cells cx 25)) (.cells cy 25); rwa [World.size_alloc] at this
  have hbel : Below w.heap.size w ((w.alloc (.cells cx 25)).alloc (.cells cy 25)) := (((Below.refl _ _).alloc (Nat.le_refl _) _).alloc (by simp) _)
  have HSX := Lib.hid hsx
  have HSY := Lib.hid hsy
  have HOX := Lib.hid onx
  have HOY := Lib.hid ony
  have HCX := Lib.hid hcx
  have HCY := Lib.hid hcy
  have HAX := Lib.hid hatx
  have HAY := Lib.hid haty
  have HGX := Lib.hid hgx
  have HGY := Lib.hid hgy
  have C1 := Lib.hid Cmp1
  have C2 := Lib.hid Cmp2
  have HB := Lib.hid hbel
  have HLA := Lib.hid hla
  have HLX := Lib.hid lx
  have HLY := Lib.hid ly
  clear hsx hsy onx ony hcx hcy hatx haty hgx hgy Cmp1 Cmp2 hbel hla lx ly hx hy
  go_enter Tryd.func6, Tryd.ntmps6
  go_wp2_with fail
  obtain ⟨W0, hW0⟩ : ∃ W0, W0 = (w.alloc (.cells cx 25)).alloc (.cells cy 25) := ⟨_, rfl⟩
  rw [← hW0] at HB HGX HGY ⊢
  clear hW0
  go_loopw [5, 6] (fun v i wr => ∃ k q : Nat, k ≤ 32 ∧ v = .int .i64 (cmpI (xs.drop k) (ys.drop k)) ∧ i = .int .i64 ((k : Int) - 1) ∧ wr = W0.drewN q) (fun _ i _ => (intOf i + 1).toNat)
  case atStart =>
    refine ⟨32, 0, by omega, ?_, rfl, rfl⟩
    rw [List.drop_eq_nil_of_le (by rw [HLX.out]; omega), List.drop_eq_nil_of_le (by rw [HLY.out]; omega)]; rfl
  case round =>
    obtain ⟨k, q, hk, rfl, rfl, rfl⟩ := hrel
    by_cases hk0 : (0 : Int) ≤ (k : Int) - 1
    · obtain ⟨j, rfl⟩ : ∃ j, k = j + 1 := ⟨k - 1, by omega⟩
      have cx0 : W0.cell? ⟨w.heap.size, j, none⟩ = some (.int .u8 (xs.getD j 0)) := by rw [cell_of_row W0 _ j _ _ _ HGX.out]; exact HAX.out j (by omega)
      have cy0 : W0.cell? ⟨w.heap.size + 1, j, none⟩ = some (.int .u8 (ys.getD j 0)) := by rw [cell_of_row W0 _ j _ _ _ HGY.out]; exact HAY.out j (by omega)
      have hst := cmp_step xs ys j (by rw [HLX.out]; omega) (by rw [HLY.out]; omega)
      obtain ⟨a, ha⟩ : ∃ a, xs.getD j 0 = a := ⟨_, rfl⟩
      obtain ⟨b, hb⟩ : ∃ a, ys.getD j 0 = a := ⟨_, rfl⟩
      rw [ha] at cx0 hst
      rw [hb] at cy0 hst
      have HST := Lib.hid hst
      clear hst ha hb
      simp only [Int.natCast_add, Int.add_sub_cancel, Int.cast_ofNat_Int] at hk0 ⊢
      obtain ⟨z, hz⟩ : ∃ z, cmpI (xs.drop (j + 1)) (ys.drop (j + 1)) = z := ⟨_, rfl⟩
      rw [hz] at HST ⊢
      clear hz
      have hj0 : (0 : Int) ≤ (j : Int) := by omega
      have hj1 : (j : Int) < 32 := by omega
      have fin : ∀ r : Int, r = (if a < b then -1 else if b < a then 1 else z) → cmpI (xs.drop j) (ys.drop j) = r := fun r h => HST.out.trans h.symm
      have FIN := Lib.hid fin
      clear fin HST
      by_cases hab : a < b
      case' pos =>
        have hba : ¬ a > b := by omega
      case' neg => by_cases hba : a > b
      all_goals
        go_wp2_with fail
        go_quiet (fail)
        go_wp2_with fail
        go_quiet (fail)
        go_wp2
        go_roundw
        case rel =>
          refine ⟨j, _, by omega, ?_, by go_num, rfl⟩
          rw [FIN.out _ rfl]
          first | rw [if_pos hab] | rw [if_neg (by omega), if_pos hba] | rw [if_neg (by omega), if_neg (by omega)]
        case measure => simp [intOf] <;> omega
    · obtain rfl : k = 0 := by omega
      rw [List.drop_zero, List.drop_zero]
      have hneg := cmpI_neg xs ys
      obtain ⟨z, hz⟩ : ∃ z, cmpI xs ys = z := ⟨_, rfl⟩
      have hzb : -1 ≤ z ∧ z ≤ 1 := by rw [← hz]; exact cmpI_bd xs ys
      rw [hz] at C1 hneg ⊢
      rw [hneg] at C2
      clear hz hneg
      go_wp2_with (first
        | refine wpList_load_row rfl 25 (.tmp 2) rfl w.heap.size (by rfl) 25 cx (0, 0) _ HGX.out Tryd.underlying25 rfl HSX.out ?_
        | refine wpList_load_row rfl 25 (.tmp 3) rfl (w.heap.size + 1) (by rfl) 25 cy (0, 0) _ HGY.out Tryd.underlying25 rfl HSY.out ?_)
      refine (C1.out _).mono ?_
      rintro e W1 ⟨rfl, hb1⟩
      have c1 := (Chg.of_below HB.out (fun _ => False)).then ((Chg.refl (fun _ => False) W0).drewN q) (fun _ h => h.elim)
      have c2 := c1.then (Chg.of_below hb1 (fun _ => False)) (fun _ h => h.elim)
      have hsz : w.heap.size + 1 < (W0.drewN q).heap.size := (Array.getElem?_eq_some_iff.1 HGY.out).1
      have gx : W1.heap[w.heap.size]? = some (.cells cx 25 (0, 0)) := (hb1.block _ (by omega)).trans HGX.out
      have gy : W1.heap[w.heap.size + 1]? = some (.cells cy 25 (0, 0)) := (hb1.block _ (by omega)).trans HGY.out
      have GX := Lib.hid gx
      have GY := Lib.hid gy
      have K2 := Lib.hid c2
      clear gx gy c1 c2 hb1 hsz HB HGX HGY HAX HAY
      go_wp2_with (first
        | refine want_load_row rfl 25 (.tmp 3) rfl (w.heap.size + 1) (by rfl) 25 cy (0, 0) _ GY.out Tryd.underlying25 rfl HSY.out ?_
        | refine want_load_row rfl 25 (.tmp 2) rfl w.heap.size (by rfl) 25 cx (0, 0) _ GX.out Tryd.underlying25 rfl HSX.out ?_
        | (go_at_call 29; refine (C2.out _).mono ?_; rintro e W2 ⟨rfl, hb2⟩))
      have K3 := Lib.hid (K2.out.then (Chg.of_below hb2 (fun _ => False)) (fun _ h => h.elim))
      clear hb2
      refine (awake_any W2 (HLA.out.chg K3.out (by simp) (by simp))).mono ?_
      rintro e W3 ⟨rfl, hb3⟩
      have K4 := Lib.hid (K3.out.then (Chg.of_below hb3 (fun _ => False)) (fun _ h => h.elim))
      clear hb3
      go_wp2
      go_ret
      exact ⟨rfl, K4.out.below (Nat.le_refl _) (fun _ h => h.elim)⟩
end Go.Proofs.YtaahffminoekfaaDoor
