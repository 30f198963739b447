/-
  Hashes gathered; wots.Recover, walked.
-/
import Derived.Test.YtaahffminoekfaaDoorY6
import Derived.Great.BuildSlice
namespace Go.Proofs.YtaahffminoekfaaDoor
open Go.RowKit
theorem own_up {W W' : World} {base n s : Nat} {e : TypeId} {v : Value} {xs : List Value} (h : W.ownsRow base e s v n xs) (hu : Up W W') : W'.ownsRow base e s v n xs := by
  refine ⟨h.1, ?_⟩
  rcases h.2 with hn | ⟨g, cap, cur, rfl, hb, hg, hrest⟩
  · exact .inl hn
  · exact .inr ⟨g, cap, cur, rfl, hb, hu.heap hg (fun h => h), hrest⟩
theorem flat_at : ∀ (hs : List (List Int)), (∀ r, r < hs.length → (hs.getD r []).length = 32) → ∀ r j, r < hs.length → j < 32 → hs.flatten.getD (32 * r + j) 0 = (hs.getD r []).getD j 0
  | [], _, r, _, hr, _ => by simp at hr
  | x :: hs, h, r, j, hr, hj => by
    have h0 : x.length = 32 := by simpa using h 0 (by simp)
    rw [List.flatten_cons, List.getD_eq_getElem?_getD]
    cases r with
    | zero =>
      rw [List.getElem?_append_left (by omega)]
      simp [List.getD_eq_getElem?_getD]
    | succ r =>
      rw [List.getElem?_append_right (by omega), show 32 * (r + 1) + j - x.length = 32 * r + j by omega, ← List.getD_eq_getElem?_getD]
      rw [flat_at hs (fun r hr => by simpa using h (r + 1) (by simpa using hr)) r j (by simpa using hr) hj]
      simp
theorem own_slh {w : World} {base c : Nat} {B : Option Addr} {hs : List (List Int)} (h : w.ownsRow base 25 32 (.slice B hs.length c) hs.length (u8s hs.flatten)) (each : ∀ r, r < hs.length → (hs.getD r []).length = 32 ∧ Bytes (hs.getD r [])) : SlH w (.slice B hs.length c) hs := by
  rcases h.2 with ⟨h1, h0⟩ | ⟨g, cap, cur, he, _, hg, h1, h2, _⟩
  · exact .inl ⟨h1, List.eq_nil_of_length_eq_zero h0⟩
  · injection he with h3 h4 h5
    subst h3 h5
    refine .inr ⟨⟨g, 0, none⟩, c, rfl, h1, h2, fun r hr => ⟨rfl, (each r hr).1, (each r hr).2, fun j u hu => ?_⟩⟩
    have hj : j < 32 := by rw [← (each r hr).1, ← u8s_len]; exact (List.getElem?_eq_some_iff.1 hu).1
    have hfl := flat_len32 hs (fun r hr => (each r hr).1)
    have := h.cells rfl (32 * r + j) _ (u8s_at (show 32 * r + j < hs.flatten.length by omega))
    rw [addr_add, flat_at hs (fun r hr => (each r hr).1) r j hr hj] at this
    rw [u8s_at (by rw [(each r hr).1]; exact hj)] at hu
    cases hu
    simpa using this
theorem info25z : (Tryd.prog.info? 25).map (fun i => (i.zero, i.size, i.bytes)) = some (some (.agg ((List.replicate 32 (Value.int .u8 0)).toArray)), 32, 32) := by kernel_rfl
theorem push_hash (w : World) (base : Nat) (v : Value) (n : Nat) (hs : List (List Int)) (hown : w.ownsRow base 25 32 v n (u8s hs.flatten)) (x : List Int) (cx : Array Value) (hcx : (u8s x).toArray = cx) (hx : x.length = 32) (hn : n ≤ 100000) (hbase : base ≤ w.heap.size) :
    ∃ A c w', (Builtin.append_ #[49, 49] 49 #[v, .slice (some ⟨w.heap.size, 0, none⟩) 1 1]).run Tryd.prog (w.alloc (.cells cx 25)) = .ok (.slice A (n + 1) c) w' ∧ w'.ownsRow base 25 32 (.slice A (n + 1) c) (n + 1) (u8s (hs ++ [x]).flatten) ∧
      Chg (fun k => v.ownBlock = some k) w w' := by
  obtain ⟨v', w', hr, ho, hg, _, hb⟩ := ap_run (P := Tryd.prog) (w.alloc (.cells cx 25)) 49 49 base 25 (.agg ((List.replicate 32 (Value.int .u8 0)).toArray)) 32 32 Tryd.underlying49 info25z rfl (by decide) v n _ (hown.alloc _) (.slice (some ⟨w.heap.size, 0, none⟩) 1 1) 1 (u8s x)
    (.inr ⟨_, 1, rfl, by rw [u8s_len, hx], Nat.le_refl _, by omega, fun j y hy => by
      rw [addr_add, cell_of_row _ _ _ _ _ _ (heap_alloc_last w _), Nat.zero_add, ← hcx]
      simpa using hy⟩) (u8s_one _) (by omega) (by omega) (by simp; omega)
  have hsh : ∃ A c, v' = .slice A (n + 1) c := by
    rcases ho.2 with ⟨rfl, h0⟩ | ⟨g, cap, cur, rfl, _⟩
    · omega
    · exact ⟨_, cap, rfl⟩
  obtain ⟨A, c, rfl⟩ := hsh
  refine ⟨A, c, w', hr, ?_, ?_⟩
  · rw [List.flatten_append, List.flatten_singleton]
    simpa [u8s] using ho
  · exact ((Chg.refl (fun k => v.ownBlock = some k) w).alloc _).then (Chg.of_grownBy hg) (fun i hi => .inl hi.symm)
theorem run_build_hash (w : World) (x : List Int) (cx : Array Value) (hcx : (u8s x).toArray = cx) (hx : x.length = 32) : (Instr.buildSlice 49 1 #[(0, .agg cx)]).run Tryd.prog w = .ok (.slice (some ⟨w.heap.size, 0, none⟩) 1 1) (w.alloc (.cells cx 25)) := by
  obtain ⟨i, hi, hzz⟩ := Option.map_eq_some_iff.1 info25z
  simp only [Prod.mk.injEq] at hzz
  obtain ⟨hz0, hz1, hz2⟩ := hzz
  have hs : cx.size = 32 := by rw [← hcx]; simp [u8s, hx]
  refine run_buildSlice w 49 25 1 _ cx i _ Tryd.underlying49 hi hz0 (by rw [hz1]; omega) (by rw [hz1]; omega) ?_
  rw [hz1]
  have := Great.fill_whole (s := 32) (by omega) [.agg cx] ((Array.range (1 * 32)).map ((Value.agg ((List.replicate 32 (Value.int .u8 0)).toArray)).cells[· % (Value.agg ((List.replicate 32 (Value.int .u8 0)).toArray)).cells.size]!)) (by intro v hv; obtain rfl := List.mem_singleton.1 hv; exact hs) (by simp)
  have e : ([Value.agg cx].flatMap fun v => v.cells.toList).toArray = cx := by simp [Value.cells]
  rw [e] at this
  exact this
theorem wpList_build_hash {ops : Array Oper} {rest : List Oper} {o : Oper} {a : Act} {w : World} {Q : Exit → Act → World → Prop} (hg : o.guard = none) (y : Operand) (ho : o.op = .buildSlice 49 1 #[(0, y)]) (x : List Int) (cx : Array Value) (hcx : (u8s x).toArray = cx) (hx : x.length = 32) (hy : a.eval y = .agg cx)
    (h : wpList Tryd.prog ops Q rest (a.put o.dst (.slice (some ⟨w.heap.size, 0, none⟩) 1 1)) (w.alloc (.cells cx 25))) : wpList Tryd.prog ops Q (o :: rest) a w :=
  wpList_plain hg fun _ hK => by
    unfold Oper.wp execOp
    simp only [ho, Sem.run_bind, List.map_toArray, List.map_cons, List.map_nil, hy, run_build_hash w x cx hcx hx, Result.andThen_ok]
    exact hK _ _ h
/-- The ends of the chains that a signature's parts lead to. -/
def recI (h : List Int) (sg : List (List Int)) (k : Nat) : List (List Int) := (List.range k).map fun j => walkI (sg.getD j []) j ((digitsI h).getD j 0) (15 - (digitsI h).getD j 0).toNat
theorem recI_succ (h : List Int) (sg : List (List Int)) (k : Nat) : recI h sg (k + 1) = recI h sg k ++ [walkI (sg.getD k []) k ((digitsI h).getD k 0) (15 - (digitsI h).getD k 0).toNat] := by
  unfold recI; rw [List.range_succ, List.map_append]; rfl
theorem recI_len (h : List Int) (sg : List (List Int)) (k : Nat) : (recI h sg k).length = k := by simp [recI]
theorem recI_each (h : List Int) (sg : List (List Int)) (k : Nat) (hsg : ∀ r, r < k → (sg.getD r []).length = 32 ∧ Bytes (sg.getD r [])) : ∀ r, r < k → ((recI h sg k).getD r []).length = 32 ∧ Bytes ((recI h sg k).getD r []) := by
  intro r hr
  have : (recI h sg k).getD r [] = walkI (sg.getD r []) r ((digitsI h).getD r 0) (15 - (digitsI h).getD r 0).toNat := by
    unfold recI; simp [List.getD_eq_getElem?_getD, hr]
  rw [this]
  exact ⟨walkI_len _ _ _ _ (hsg r hr).1, walkI_bytes _ _ _ _ (hsg r hr).2⟩
/-- What Recover answers. -/
def RecPost (h : List Int) (sg : List (List Int)) (w : World) (e : Ending) (w' : World) : Prop :=
  Below w.heap.size w w' ∧ ((sg.length = 67 ∧ e = .returned (.tuple #[hashV (shaI (4 :: (recI h sg 67).flatten)), .int .i64 0])) ∨ (¬ sg.length = 67 ∧ e = .returned (.tuple #[hashV zeroH, .int .i64 10])))
set_option maxRecDepth 100000 in
set_option maxHeartbeats 4000000 in
theorem recover_any (h : List Int) (v : Value) (sg : List (List Int)) (w : World) (hl : h.length = 32) (hb : Bytes h) (hv : SlH w v sg) (hla : Laid w) :
    Calls Tryd.prog 53 #[hashV h, v] w (RecPost h sg w) := by
  have hl2 := hla.lt
  have hsm := hv.small
  obtain ⟨cx, hcx, hux, _, _, hsz, hs32⟩ := hash_parts h hl
  have hsh : ∃ A c, v = .slice A sg.length c := by
    rcases hv with ⟨rfl, rfl⟩ | ⟨a, c, rfl, _⟩
    · exact ⟨_, _, rfl⟩
    · exact ⟨_, _, rfl⟩
  obtain ⟨A, ac, rfl⟩ := hsh
  rw [hcx]
  obtain ⟨W0, hW0⟩ : ∃ W0, W0 = (w.alloc (.cells cx 25)).alloc (.cells ((List.replicate 32 (Value.int .u8 0)).toArray) 25) := ⟨_, rfl⟩
  have HR0 : Hid (W0.heap[w.heap.size + 1]? = some (.cells ((List.replicate 32 (Value.int .u8 0)).toArray) 25 (0, 0))) := Lib.hid (by
    rw [hW0]; have := heap_alloc_last (w.alloc (.cells cx 25)) (.cells ((List.replicate 32 (Value.int .u8 0)).toArray) 25); rwa [World.size_alloc] at this)
  have HX0 : Hid (W0.heap[w.heap.size]? = some (.cells cx 25 (0, 0))) := Lib.hid (by rw [hW0]; exact (Below.heap_alloc _ _ _ (by simp)).trans (heap_alloc_last _ _))
  have HC0 : Hid (Chg (fun i => w.heap.size ≤ i) w W0) := Lib.hid (by rw [hW0]; exact ((Chg.refl _ w).alloc _).alloc _)
  have HW0 := Lib.hid hW0
  have HWL : Hid (W0 = (w.alloc (.cells cx 25)).alloc (.cells (#[.int .u8 0, .int .u8 0, .int .u8 0, .int .u8 0, .int .u8 0, .int .u8 0, .int .u8 0, .int .u8 0, .int .u8 0, .int .u8 0, .int .u8 0, .int .u8 0, .int .u8 0, .int .u8 0, .int .u8 0, .int .u8 0, .int .u8 0, .int .u8 0, .int .u8 0, .int .u8 0, .int .u8 0, .int .u8 0, .int .u8 0, .int .u8 0, .int .u8 0, .int .u8 0, .int .u8 0, .int .u8 0, .int .u8 0, .int .u8 0, .int .u8 0, .int .u8 0]) 25)) := Lib.hid (by rw [hW0]; rfl)
  have HCX := Lib.hid hcx
  have HS25 : Hid ((Tryd.prog.info? 25).map (·.size) = some 32) := Lib.hid (by rw [hsz, hs32])
  have HSX := Lib.hid hsz
  have HB := Lib.hid hb
  have HL := Lib.hid hl
  have HLA := Lib.hid hla
  have HV := Lib.hid hv
  clear hcx hux hl hb hla hsz hs32 hv hW0
  by_cases hl67 : sg.length = 67
  case neg =>
    have hne : ((sg.length : Int) != 67) = true := by rw [bne_iff_ne]; omega
    have HN := Lib.hid hl67
    clear hl67
    go_enter Tryd.func53, Tryd.ntmps53
    have LS : Hid ((Tryd.prog.info? 25).map (·.size) = some (Array.size (#[.int .u8 0, .int .u8 0, .int .u8 0, .int .u8 0, .int .u8 0, .int .u8 0, .int .u8 0, .int .u8 0, .int .u8 0, .int .u8 0, .int .u8 0, .int .u8 0, .int .u8 0, .int .u8 0, .int .u8 0, .int .u8 0, .int .u8 0, .int .u8 0, .int .u8 0, .int .u8 0, .int .u8 0, .int .u8 0, .int .u8 0, .int .u8 0, .int .u8 0, .int .u8 0, .int .u8 0, .int .u8 0, .int .u8 0, .int .u8 0, .int .u8 0, .int .u8 0] : Array Value))) := Lib.hid (by rw [HS25.out]; rfl)
    have LO : Hid (((List.replicate 32 (Value.int .u8 0)).toArray).size = Array.size (#[.int .u8 0, .int .u8 0, .int .u8 0, .int .u8 0, .int .u8 0, .int .u8 0, .int .u8 0, .int .u8 0, .int .u8 0, .int .u8 0, .int .u8 0, .int .u8 0, .int .u8 0, .int .u8 0, .int .u8 0, .int .u8 0, .int .u8 0, .int .u8 0, .int .u8 0, .int .u8 0, .int .u8 0, .int .u8 0, .int .u8 0, .int .u8 0, .int .u8 0, .int .u8 0, .int .u8 0, .int .u8 0, .int .u8 0, .int .u8 0, .int .u8 0, .int .u8 0] : Array Value)) := Lib.hid (by kernel_rfl)
    have L1 : Hid (Array.all (#[.int .u8 0, .int .u8 0, .int .u8 0, .int .u8 0, .int .u8 0, .int .u8 0, .int .u8 0, .int .u8 0, .int .u8 0, .int .u8 0, .int .u8 0, .int .u8 0, .int .u8 0, .int .u8 0, .int .u8 0, .int .u8 0, .int .u8 0, .int .u8 0, .int .u8 0, .int .u8 0, .int .u8 0, .int .u8 0, .int .u8 0, .int .u8 0, .int .u8 0, .int .u8 0, .int .u8 0, .int .u8 0, .int .u8 0, .int .u8 0, .int .u8 0, .int .u8 0] : Array Value) (·.oneCell') = true) := Lib.hid (by kernel_rfl)
    go_wp2_with (rw [← HWL.out]; refine wpList_store_row rfl 25 (.tmp 4) (.tmp 12) rfl (w.heap.size + 1) #[.int .u8 0, .int .u8 0, .int .u8 0, .int .u8 0, .int .u8 0, .int .u8 0, .int .u8 0, .int .u8 0, .int .u8 0, .int .u8 0, .int .u8 0, .int .u8 0, .int .u8 0, .int .u8 0, .int .u8 0, .int .u8 0, .int .u8 0, .int .u8 0, .int .u8 0, .int .u8 0, .int .u8 0, .int .u8 0, .int .u8 0, .int .u8 0, .int .u8 0, .int .u8 0, .int .u8 0, .int .u8 0, .int .u8 0, .int .u8 0, .int .u8 0, .int .u8 0] (by rfl) (by rfl) 25 _ HR0.out LS.out LO.out L1.out ?_)

    refine bodyPost_ret (v := .tuple #[.agg #[.int .u8 0, .int .u8 0, .int .u8 0, .int .u8 0, .int .u8 0, .int .u8 0, .int .u8 0, .int .u8 0, .int .u8 0, .int .u8 0, .int .u8 0, .int .u8 0, .int .u8 0, .int .u8 0, .int .u8 0, .int .u8 0, .int .u8 0, .int .u8 0, .int .u8 0, .int .u8 0, .int .u8 0, .int .u8 0, .int .u8 0, .int .u8 0, .int .u8 0, .int .u8 0, .int .u8 0, .int .u8 0, .int .u8 0, .int .u8 0, .int .u8 0, .int .u8 0], .int .i64 10]) (results_row_tmp rfl _ _ (w.heap.size + 1) 25 _ (0, 0) _ (by rfl) (setRow_same W0 (w.heap.size + 1) #[.int .u8 0, .int .u8 0, .int .u8 0, .int .u8 0, .int .u8 0, .int .u8 0, .int .u8 0, .int .u8 0, .int .u8 0, .int .u8 0, .int .u8 0, .int .u8 0, .int .u8 0, .int .u8 0, .int .u8 0, .int .u8 0, .int .u8 0, .int .u8 0, .int .u8 0, .int .u8 0, .int .u8 0, .int .u8 0, .int .u8 0, .int .u8 0, .int .u8 0, .int .u8 0, .int .u8 0, .int .u8 0, .int .u8 0, .int .u8 0, .int .u8 0, .int .u8 0] _ 25 (0, 0) HR0.out) _ (by rfl) Tryd.underlying25 rfl (by rw [HS25.out]; rfl)) rfl ?_
    exact ⟨(HC0.out.setRow (w.heap.size + 1) (.inl (by omega)) _).below (Nat.le_refl _) (fun _ h => h), .inr ⟨HN.out, by rw [← zero_agg]⟩⟩
  case pos =>
    have hne : ((sg.length : Int) != 67) = false := by rw [bne_eq_false_iff_eq]; omega
    obtain ⟨b, off, cap, hvv, hv1, hv2, _, hrr⟩ := HV.out.form (by omega)
    injection hvv with h1 h2 h3
    subst h1 h3
    rw [hl67] at hne
    have hc67 : 67 ≤ ac := by omega
    have hcm : ac ≤ 9223372036854775807 := by unfold maxLen at hv2; omega
    have HN67 := Lib.hid hl67
    have HRR := Lib.hid (fun r hr => (hrr r hr).2.2)
    clear hrr hv1 hv2 h2
    rw [hl67] at HV HRR ⊢
    go_enter Tryd.func53, Tryd.ntmps53
    have hdig := digits_any h HL.out HB.out W0
    rw [HCX.out] at hdig
    have HDIG := Lib.hid hdig
    clear hdig
    have HXL := Lib.hid HX0.out
    rw [HWL.out] at HXL
    go_wp2_with (refine wpList_load_row rfl 25 (.tmp 2) rfl w.heap.size (by rfl) 25 cx (0, 0) _ HXL.out Tryd.underlying25 rfl HSX.out ?_)
    rw [← HWL.out]
    clear HXL
    refine HDIG.out.mono ?_
    rintro e W1 ⟨v, rfl, hod, hbd⟩
    obtain ⟨gd, cd, rfl, hd1, hd2, hcd⟩ := DigV.of hod
    have hu1 : Up W0 W1 := up_below hbd
    have hc1 : Chg (fun i => w.heap.size ≤ i) w W1 := HC0.out.then hu1 (fun _ h => h.elim)
    have HV1 := Lib.hid (HV.out.chg hc1 (fun i hi => by omega))
    have HR1 := Lib.hid (fun r hr => (fun (j : Nat) u hu => hc1.cell ((HRR.out r hr) j u hu) (by have := World.block_lt_of_cell? w _ ((HRR.out r hr) j u hu); simp only at this; show ¬ (w.heap.size ≤ b); omega) : W1.rangeAt b (off + 32 * r) (u8s (sg.getD r []))))
    have HD1 := Lib.hid hcd
    have HLA1 := Lib.hid (HLA.out.chg hc1 (by omega) (by omega))
    have HRC := Lib.hid (hu1.heap HR0.out (fun h => h))
    have HC1 := Lib.hid hc1
    have hwz1 : w.heap.size + 1 < W1.heap.size := (Array.getElem?_eq_some_iff.1 HRC.out).1
    clear hod hbd hu1 hc1 hcd HDIG HV HRR HX0 HR0 HC0 HW0 HWL HLA
    go_wp2_with fail
    go_loopw [6, 16] (fun o i wr => ∃ (k c : Nat) (B : Option Addr), k ≤ 67 ∧ i = .int .i64 k ∧ o = .slice B k c ∧ wr.ownsRow W1.heap.size 25 32 (.slice B k c) k (u8s (recI h sg k).flatten) ∧ Up W1 wr) (fun _ i _ => 67 - (intOf i).toNat)
    case atStart => exact ⟨0, 0, none, by omega, rfl, rfl, World.ownsRow_nil _ _ _ _, Chg.refl _ _⟩
    case round =>
      rename World => wo
      obtain ⟨k, c, B, hk, rfl, rfl, ho, hu⟩ := hrel
      by_cases hk2 : (k : Int) < 67
      · have hsk := (HV1.out.up hu).lens k (by omega)
        have hrg := Rng.up (HR1.out k (by omega)) hu
        have c1 := hu.cell (HD1.out k (by omega)) (fun h => h)
        have bd := digit_bd h HB.out k (by omega)
        have hrs := recI_succ h sg k
        obtain ⟨d, hd⟩ : ∃ d, (digitsI h).getD k 0 = d := ⟨_, rfl⟩
        obtain ⟨s, hs⟩ : ∃ s, sg.getD k [] = s := ⟨_, rfl⟩
        rw [hd] at c1 bd hrs
        rw [hs] at hsk hrg hrs
        have hcall := walk_any s k d 15 wo hsk.1 hsk.2 ⟨by omega, by omega⟩ ⟨by omega, by omega⟩ ⟨by omega, by omega⟩ (HLA1.out.up hu)
        rw [hashV] at hcall
        have hxl := walkI_len s k d (15 - d).toNat hsk.1
        obtain ⟨x, hx⟩ : ∃ x, walkI s k d (15 - d).toNat = x := ⟨_, rfl⟩
        rw [hx] at hcall hxl hrs
        obtain ⟨cx, hcx, hux, _, _, _, _⟩ := hash_parts x hxl
        unfold HashPost at hcall
        rw [hcx] at hcall
        have HCALL := Lib.hid hcall
        have HRG := Lib.hid hrg
        have HSL := Lib.hid hsk.1
        have HXL := Lib.hid hxl
        have HUX := Lib.hid hux
        have HRS := Lib.hid hrs
        have HO := Lib.hid ho
        have HU := Lib.hid hu
        have bd0 := bd.1
        have bd1 := bd.2
        clear hcall hrg hsk hxl hcx hux hrs ho hu hx hd hs bd
        go_wp2_with (refine wpList_load_mid rfl 25 (.tmp 24) rfl b (off + k * 32) (by rfl) (u8s s) _ (by rw [Nat.mul_comm]; exact HRG.out) Tryd.underlying25 rfl (info25l HSL.out) ?_)
        refine HCALL.out.mono ?_
        rintro e W2 ⟨rfl, hb2⟩
        have hu2 : Up wo W2 := up_below hb2
        obtain ⟨A2, c2, w2, hrun, ho2, hc2⟩ := push_hash W2 W1.heap.size _ k (recI h sg k) (own_up HO.out hu2) x cx HUX.out HXL.out (by omega) (by have := HU.out.size; have := hu2.size; omega)
        have HRUN := Lib.hid hrun
        have HO2 := Lib.hid ho2
        have HU2 := Lib.hid ((HU.out.trans hu2).then hc2 (fun i hi => .inr (by have := ((own_up HO.out hu2).lt i hi).1; omega)))
        clear hb2 hu2 hrun ho2 hc2
        go_wp2_with (first
          | refine wpList_build_hash rfl (.tmp 28) rfl x cx HUX.out HXL.out (by rfl) ?_
          | (at_builtin; refine wpList_run_append rfl _ _ 49 rfl _ _ rfl rfl 49 rfl HRUN.out ?_))
        go_roundw
        case rel =>
          refine ⟨k + 1, c2, A2, by omega, by go_num, rfl, ?_, HU2.out⟩
          rw [HRS.out]; exact HO2.out
        case measure => simp [intOf]; omega
      · obtain rfl : k = 67 := by omega
        have hslh : SlH wo (.slice B 67 c) (recI h sg 67) := by
          have := ho
          have h2 := own_slh (w := wo) (base := W1.heap.size) (c := c) (B := B) (hs := recI h sg 67) (by rw [recI_len]; exact ho) (by rw [recI_len]; exact recI_each h sg 67 (fun r hr => HV1.out.lens r (by omega)))
          rwa [recI_len] at h2
        have hpub := public_any _ _ wo hslh (by rw [recI_len]; omega) (HLA1.out.up hu)
        obtain ⟨hc, hhc, _, hone, hold, hsz, _⟩ := hash_parts _ (hash_size (4 :: (recI h sg 67).flatten))
        unfold SumPost at hpub
        rw [hhc] at hpub
        have HPUB := Lib.hid hpub
        have HSZ := Lib.hid hsz
        have HON := Lib.hid hone
        have HOL := Lib.hid hold
        have HHC := Lib.hid hhc
        have H3 := Lib.hid (hu.heap HRC.out (fun h => h))
        have HC3 := Lib.hid (HC1.out.then hu (fun _ h => h.elim))
        clear hslh hpub hsz hone hold hhc ho hu HRC HC1
        go_wp2_with fail
        refine HPUB.out.mono ?_
        rintro e W2 ⟨rfl, hb2⟩
        have hu2 : Up wo W2 := up_below hb2
        have H4 := Lib.hid (hu2.heap H3.out (fun h => h))
        have HC4 := Lib.hid (HC3.out.then hu2 (fun _ h => h.elim))
        clear hb2 hu2 H3 HC3 HPUB
        go_wp2_with (refine wpList_store_row rfl 25 (.tmp 4) (.tmp 33) rfl (w.heap.size + 1) hc (by rfl) (by rfl) 25 _ H4.out HSZ.out HOL.out HON.out ?_)
        refine bodyPost_ret (v := .tuple #[.agg hc, .int .i64 0]) (results_row_tmp rfl _ _ (w.heap.size + 1) 25 _ (0, 0) _ (by rfl) (setRow_same W2 (w.heap.size + 1) hc _ 25 (0, 0) H4.out) _ (by rfl) Tryd.underlying25 rfl HSZ.out) rfl ?_
        exact ⟨(HC4.out.setRow (w.heap.size + 1) (.inl (by omega)) _).below (Nat.le_refl _) (fun _ h => h), .inl ⟨HN67.out, by rw [HHC.out]⟩⟩
end Go.Proofs.YtaahffminoekfaaDoor
