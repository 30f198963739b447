/-
  slices.Clone of hashes; lamport.Recover, walked.
-/
import Derived.Test.YtaahffminoekfaaDoorZ3
import Derived.Test.YtaahffminoekfaaDoorZ4
import Derived.Test.YtaahffminoekfaaDoorZ5
import Derived.Lib.BufferMore
namespace Go.Proofs.YtaahffminoekfaaDoor
open Go.RowKit Go.Shelf
attribute [local go_sem] Oper.semAt_some
theorem wrap_small (x : Int) (h0 : 0 ≤ x) (h1 : x ≤ 100000) : IntKind.i64.wrap x = x := by
  rw [IntKind.wrap_i64]; omega
theorem gv_store_row {P : Program} {o : Oper} {ρ : Operand → Value} {w : World} {Φ : Value → World → Prop} {x y : Operand} {ty : TypeId} {g : Nat} {cells old : Array Value} {t : TypeId} (ho : o.op = .store ty x y) (hx : ρ x = .pointer (some ⟨g, 0, none⟩)) (hy : ρ y = .agg cells)
    (hg : w.heap[g]? = some (.cells old t (0, 0))) (hi : (P.info? ty).map (·.size) = some cells.size) (hold : old.size = cells.size) (h1 : cells.all (·.oneCell') = true) (k : Φ undef (w.setRow g cells)) : Gives P o ρ w Φ := by
  refine Gives.skip (w' := w.setRow g cells) ?_ k
  unfold execOp
  simp only [ho, hx, hy, Instr.storeAt, Instr.sureAddr, Sem.run_bind, Sem.run_pure, Result.andThen_ok, run_storeVar_row w g t ty old cells hg hi hold h1]
theorem slh_src {w : World} {b off n c : Nat} {hs : List (List Int)} (h : SlH w (.slice (some ⟨b, off, none⟩) n c) hs) (hn : hs.length = n) (hp : 0 < n) : Src w (.slice (some ⟨b, off, none⟩) n c) 32 n (u8s hs.flatten) := by
  obtain ⟨b', off', cap, he, h1, h2, _, hr⟩ := h.form (by omega)
  injection he with e1 e2 e3
  injection e1 with e1
  injection e1 with e1 e4
  subst e1 e3 e4
  have hfl := flat_len32 hs (fun r hr2 => (hr r hr2).1)
  refine .inr ⟨_, _, rfl, by rw [u8s_len, hfl, hn]; omega, by omega, by unfold maxLen at h2; omega, fun j u hu => ?_⟩
  have hj : j < hs.flatten.length := by rw [← u8s_len]; exact (List.getElem?_eq_some_iff.1 hu).1
  rw [u8s_at hj] at hu
  cases hu
  have hr0 : j / 32 < hs.length := by omega
  have := (hr (j / 32) hr0).2.2 (j % 32) _ (u8s_at (show j % 32 < (hs.getD (j / 32) []).length by rw [(hr _ hr0).1]; omega))
  rw [← flat_at hs (fun r hr2 => (hr r hr2).1) (j / 32) (j % 32) hr0 (by omega), show 32 * (j / 32) + j % 32 = j by omega] at this
  rw [addr_add, show off + j = off + 32 * (j / 32) + j % 32 by omega]
  exact this
set_option maxRecDepth 100000 in
set_option maxHeartbeats 1000000 in
theorem clone75_any (b off c : Nat) (hs : List (List Int)) (w : World) (h : SlH w (.slice (some ⟨b, off, none⟩) 512 c) hs) (hn : hs.length = 512) :
    Calls Tryd.prog 75 #[.slice (some ⟨b, off, none⟩) 512 c] w (fun e w' => ∃ g c', e = .returned (.slice (some ⟨g, 0, none⟩) 512 c') ∧ 512 ≤ c' ∧ c' ≤ 9223372036854775807 ∧ w.heap.size ≤ g ∧ HRow w' g hs ∧ Below w.heap.size w w') := by
  have hq := fun (W : World) (A : Option Addr) (n c : Nat) => Lib.run_eql_slice_nil (P := Tryd.prog) W 49 25 A n c 0 0 Tryd.underlying49
  have HS := Lib.hid (slh_src h hn (by omega))
  have HE := Lib.hid (fun r (hr : r < 512) => h.lens r (by omega))
  have HN := Lib.hid hn
  obtain ⟨_, _, cap, he, h1, h2, _⟩ := h.form (by omega)
  injection he with _ _ e3
  subst e3
  unfold maxLen at h2
  rw [hn] at h1
  clear h hn
  go_enter Tryd.func75, Tryd.ntmps75
  go_wp2_with (at_builtin; refine ap_own rfl _ _ 49 rfl w.heap.size 25 (.agg ((List.replicate 32 (Value.int .u8 0)).toArray)) 32 32 Tryd.underlying49 info25z rfl (by decide) _ 0 [] rfl ?_ _ rfl 512 (u8s hs.flatten) ?_ (u8s_one _) (by omega) (by omega) (by simp) ?_)
  case refine_1 => exact World.ownsRow_made w #[] 0 (Nat.le_refl _) (by simp [maxLen]) (by simp)
  case refine_2 => exact HS.out.chg ((Chg.refl (fun _ => False) w).alloc _) (fun _ _ _ h => h) (by decide)
  case refine_3 =>
    intro v' w' ho hg hn hb
    have ho : w'.ownsRow w.heap.size 25 32 v' 512 (u8s hs.flatten) := by simpa [HN.out] using ho
    obtain ⟨g, c', rfl⟩ : ∃ g c', v' = .slice (some ⟨g, 0, none⟩) 512 c' := by
      rcases ho.2 with ⟨_, h0⟩ | ⟨g, cap, cur, rfl, _⟩
      · omega
      · exact ⟨g, cap, rfl⟩
    have HO := Lib.hid ho
    have HG := Lib.hid hg
    clear ho hg hn hb
    go_wp2
    go_ret
    have ho := HO.out
    have hcc : 512 ≤ c' ∧ c' ≤ 9223372036854775807 := by
      rcases ho.2 with ⟨_, h0⟩ | ⟨g', cap', cur, he, _, _, q1, q2, _⟩
      · omega
      · injection he with _ _ e3
        subst e3
        unfold maxLen at q2
        exact ⟨q1, q2⟩
    exact ⟨g, c', rfl, hcc.1, hcc.2, (ho.lt g rfl).1, HRow.of_own ho HN.out HE.out, (((Chg.refl (fun _ => False) w).alloc _).then (Chg.of_grownBy HG.out) (fun i hi => .inr (by simp [Value.ownBlock] at hi; omega))).below_none (fun _ _ h => h)⟩
/-- What holds between two rounds. -/
structure LSt (W1 : World) (g : Nat) (m : List Int) (sg : List (List Int)) (pre : List Nat) (W : World) : Prop where
  chg : Chg (fun i => i = g) W1 W
  row : HRow W g (pre.foldl (updL m sg) sg)
theorem lst_own (W1 : World) (g : Nat) (m : List Int) (sg : List (List Int)) (C : Nat) (hC : W1.heap.size ≤ C) (hg : g < W1.heap.size) : OwnFrom C (LSt W1 g m sg) := by
  intro s W W' row hs hgr hr
  exact ⟨hs.chg.then (Chg.of_grownBy hgr) (fun i hi => .inr (Nat.le_trans hC (hr i hi.symm).1)), hs.row.chg (Chg.of_grownBy hgr) (fun hi => by have := (hr g hi.symm).1; omega)⟩
/-- What Recover of layer 5 answers. -/
def LRecPost (m : List Int) (sg : List (List Int)) (w : World) (e : Ending) (w' : World) : Prop :=
  Below w.heap.size w w' ∧ ((sg.length = 512 ∧ e = .returned (.tuple #[hashV (shaI (4 :: (recL m sg sg 256).flatten)), .int .i64 0])) ∨ (¬ sg.length = 512 ∧ e = .returned (.tuple #[hashV zeroH, .int .i64 10])))
set_option maxRecDepth 100000 in
set_option maxHeartbeats 4000000 in
theorem lrec_any (m : List Int) (v : Value) (sg : List (List Int)) (w : World) (hlm : m.length = 32) (hbm : Bytes m) (hv : SlH w v sg) (hla : Laid w) :
    Calls Tryd.prog 54 #[hashV m, v] w (LRecPost m sg w) := by
  refine (callsIn_wide (n := 5)).1 ?_
  have hl2 := hla.lt
  have hsm := hv.small
  obtain ⟨cm, hcm, hum, _, _, hszm, hs32⟩ := hash_parts m hlm
  have hmx : ∀ j, j < 32 → cm[j]? = some (.int .u8 (m.getD j 0)) := fun j hj => hash_at m cm hum hlm j hj
  have hsh : ∃ A c, v = .slice A sg.length c := by
    rcases hv with ⟨rfl, rfl⟩ | ⟨a, c, rfl, _⟩
    · exact ⟨_, _, rfl⟩
    · exact ⟨_, _, rfl⟩
  obtain ⟨A, ac, rfl⟩ := hsh
  rw [hcm]
  obtain ⟨W0, hW0⟩ : ∃ W0, W0 = ((w.alloc (.cells cm 25)).alloc (.cells #[.slice A sg.length ac] 49)).alloc (.cells ((List.replicate 32 (Value.int .u8 0)).toArray) 25) := ⟨_, rfl⟩
  have hr0 : W0.heap[w.heap.size + 1 + 1]? = some (.cells ((List.replicate 32 (Value.int .u8 0)).toArray) 25 (0, 0)) := by
    rw [hW0]; have := heap_alloc_last ((w.alloc (.cells cm 25)).alloc (.cells #[.slice A sg.length ac] 49)) (.cells ((List.replicate 32 (Value.int .u8 0)).toArray) 25); rwa [World.size_alloc, World.size_alloc] at this
  have hk0 : W0.heap[w.heap.size + 1]? = some (.cells #[.slice A sg.length ac] 49 (0, 0)) := by
    rw [hW0]; exact (Below.heap_alloc _ _ _ (by simp)).trans (by have := heap_alloc_last (w.alloc (.cells cm 25)) (.cells #[.slice A sg.length ac] 49); rwa [World.size_alloc] at this)
  have hm0 : W0.heap[w.heap.size]? = some (.cells cm 25 (0, 0)) := by rw [hW0]; exact (Below.heap_alloc _ _ _ (by simp; omega)).trans ((Below.heap_alloc _ _ _ (by simp)).trans (heap_alloc_last _ _))
  have hc0 : Chg (fun i => w.heap.size ≤ i) w W0 := by rw [hW0]; exact (((Chg.refl _ w).alloc _).alloc _).alloc _
  have hu0 : Up w W0 := by rw [hW0]; exact (((Chg.refl _ w).alloc _).alloc _).alloc _
  have hsz0 : W0.heap.size = w.heap.size + 1 + 1 + 1 := by rw [hW0]; simp
  have HWL : Hid (W0 = ((w.alloc (.cells cm 25)).alloc (.cells #[.slice A sg.length ac] 49)).alloc (.cells (#[.int .u8 0, .int .u8 0, .int .u8 0, .int .u8 0, .int .u8 0, .int .u8 0, .int .u8 0, .int .u8 0, .int .u8 0, .int .u8 0, .int .u8 0, .int .u8 0, .int .u8 0, .int .u8 0, .int .u8 0, .int .u8 0, .int .u8 0, .int .u8 0, .int .u8 0, .int .u8 0, .int .u8 0, .int .u8 0, .int .u8 0, .int .u8 0, .int .u8 0, .int .u8 0, .int .u8 0, .int .u8 0, .int .u8 0, .int .u8 0, .int .u8 0, .int .u8 0]) 25)) := Lib.hid (by rw [hW0]; rfl)
  have hvc : (((w.alloc (.cells cm 25)).alloc (.cells #[.slice A sg.length ac] 49)).alloc (.cells (#[.int .u8 0, .int .u8 0, .int .u8 0, .int .u8 0, .int .u8 0, .int .u8 0, .int .u8 0, .int .u8 0, .int .u8 0, .int .u8 0, .int .u8 0, .int .u8 0, .int .u8 0, .int .u8 0, .int .u8 0, .int .u8 0, .int .u8 0, .int .u8 0, .int .u8 0, .int .u8 0, .int .u8 0, .int .u8 0, .int .u8 0, .int .u8 0, .int .u8 0, .int .u8 0, .int .u8 0, .int .u8 0, .int .u8 0, .int .u8 0, .int .u8 0, .int .u8 0]) 25)).cell? ⟨w.heap.size + 1, 0, none⟩ = some (.slice A sg.length ac) := by rw [← HWL.out]; exact cell_of_row W0 _ 0 _ _ _ hk0
  have HS25 : Hid ((Tryd.prog.info? 25).map (·.size) = some 32) := Lib.hid (by rw [hszm, hs32])
  have HM0 := Lib.hid hm0
  have HR0 := Lib.hid hr0
  have HK0 := Lib.hid hk0
  have HU0 := Lib.hid hu0
  have HC0 := Lib.hid hc0
  have HZ0 := Lib.hid hsz0
  have HMX := Lib.hid hmx
  have HSM := Lib.hid hszm
  have HBM := Lib.hid hbm
  have HLM := Lib.hid hlm
  have HLA := Lib.hid hla
  have HV := Lib.hid hv
  clear hla hW0 hcm hum hszm hlm hbm hm0 hr0 hk0 hu0 hc0 hsz0 hmx hv hs32
  refine callsIn_of_wp_marks Tryd.func54 rfl trivial ?_ rfl
  simp only [Tryd.ntmps54, List.size_toArray, List.length_cons, List.length_nil, Nat.reduceAdd, Nat.reduceSub, Array.replicate_succ, Array.replicate_zero, List.push_toArray, List.append_toArray, List.nil_append, List.cons_append]
  by_cases hl5 : sg.length = 512
  case neg =>
    have hne : ((sg.length : Int) != 512) = true := by rw [bne_iff_ne]; omega
    have HN := Lib.hid hl5
    have LS : Hid ((Tryd.prog.info? 25).map (·.size) = some (Array.size (#[.int .u8 0, .int .u8 0, .int .u8 0, .int .u8 0, .int .u8 0, .int .u8 0, .int .u8 0, .int .u8 0, .int .u8 0, .int .u8 0, .int .u8 0, .int .u8 0, .int .u8 0, .int .u8 0, .int .u8 0, .int .u8 0, .int .u8 0, .int .u8 0, .int .u8 0, .int .u8 0, .int .u8 0, .int .u8 0, .int .u8 0, .int .u8 0, .int .u8 0, .int .u8 0, .int .u8 0, .int .u8 0, .int .u8 0, .int .u8 0, .int .u8 0, .int .u8 0] : Array Value))) := Lib.hid (by rw [HS25.out]; rfl)
    have LO : Hid (((List.replicate 32 (Value.int .u8 0)).toArray).size = Array.size (#[.int .u8 0, .int .u8 0, .int .u8 0, .int .u8 0, .int .u8 0, .int .u8 0, .int .u8 0, .int .u8 0, .int .u8 0, .int .u8 0, .int .u8 0, .int .u8 0, .int .u8 0, .int .u8 0, .int .u8 0, .int .u8 0, .int .u8 0, .int .u8 0, .int .u8 0, .int .u8 0, .int .u8 0, .int .u8 0, .int .u8 0, .int .u8 0, .int .u8 0, .int .u8 0, .int .u8 0, .int .u8 0, .int .u8 0, .int .u8 0, .int .u8 0, .int .u8 0] : Array Value)) := Lib.hid (by kernel_rfl)
    have L1 : Hid (Array.all (#[.int .u8 0, .int .u8 0, .int .u8 0, .int .u8 0, .int .u8 0, .int .u8 0, .int .u8 0, .int .u8 0, .int .u8 0, .int .u8 0, .int .u8 0, .int .u8 0, .int .u8 0, .int .u8 0, .int .u8 0, .int .u8 0, .int .u8 0, .int .u8 0, .int .u8 0, .int .u8 0, .int .u8 0, .int .u8 0, .int .u8 0, .int .u8 0, .int .u8 0, .int .u8 0, .int .u8 0, .int .u8 0, .int .u8 0, .int .u8 0, .int .u8 0, .int .u8 0] : Array Value) (·.oneCell') = true) := Lib.hid (by kernel_rfl)
    clear hl5
    gi_wp2_with (rw [← HWL.out]; refine wpListIn_gives wideF rfl (fun c hc => by cases hc) (Φ := fun v W' => v = undef ∧ W' = _) (gv_store_row rfl rfl rfl HR0.out LS.out LO.out L1.out ⟨rfl, rfl⟩) ?_; rintro v W' ⟨rfl, rfl⟩)
    exact ⟨_, results_row_tmp rfl _ _ (w.heap.size + 1 + 1) 25 _ (0, 0) _ (by rfl) (setRow_same W0 (w.heap.size + 1 + 1) #[.int .u8 0, .int .u8 0, .int .u8 0, .int .u8 0, .int .u8 0, .int .u8 0, .int .u8 0, .int .u8 0, .int .u8 0, .int .u8 0, .int .u8 0, .int .u8 0, .int .u8 0, .int .u8 0, .int .u8 0, .int .u8 0, .int .u8 0, .int .u8 0, .int .u8 0, .int .u8 0, .int .u8 0, .int .u8 0, .int .u8 0, .int .u8 0, .int .u8 0, .int .u8 0, .int .u8 0, .int .u8 0, .int .u8 0, .int .u8 0, .int .u8 0, .int .u8 0] _ 25 (0, 0) HR0.out) _ (by rfl) Tryd.underlying25 rfl (by rw [HS25.out]; rfl),
      (HC0.out.setRow (w.heap.size + 1 + 1) (.inl (by omega)) _).below (Nat.le_refl _) (fun _ h => h), .inr ⟨HN.out, by rw [← zero_agg]; rfl⟩⟩
  case pos =>
    obtain ⟨b0, off, cap, hvv, hv1, hv2, hb0, hrr⟩ := HV.out.form (by omega)
    injection hvv with h1 h2 h3
    subst h1 h3
    rw [hl5] at HV hvc hv1 HK0 HWL hrr ⊢
    have HRR := Lib.hid (fun r hr => (hrr r hr).2.2)
    have HL5 := Lib.hid hl5
    have hne : ((512 : Int) != 512) = false := rfl
    have hcl := clone75_any b0 off ac sg W0 (HV.out.up HU0.out) hl5
    have HCL := Lib.hid hcl
    have hcm : ac ≤ 9223372036854775807 := by unfold maxLen at hv2; omega
    clear hrr hl5 hcl h2 hv2
    gi_wp2_with fail
    rw [← HWL.out]
    refine ⟨trivial, ?_⟩
    refine (callsIn_wide.2 HCL.out).mono ?_
    rintro e W2 ⟨g, c, rfl, hc1, hc2, hg, hrow, hb2⟩
    have hu2 := up_below hb2
    have HM2 := Lib.hid (hu2.heap HM0.out (fun h => h))
    have HR2 := Lib.hid (hu2.heap HR0.out (fun h => h))
    have HK2 := Lib.hid (hu2.heap HK0.out (fun h => h))
    have HROW2 := Lib.hid hrow
    have HU2 := Lib.hid hu2
    have hz2 := hb2.size
    have hzz0 := HZ0.out
    have hgl : g < W2.heap.size := by
      obtain ⟨u, hu⟩ := Option.isSome_iff_exists.1 ((hrow.2 0 (by omega)).2.2.2 0 (by omega)).1
      exact World.block_lt_of_cell? W2 _ hu
    clear hrow hb2 hu2 hvc HCL HWL
    gi_wp2_with (refine wpListIn_gives wideF rfl (fun c hc => by cases hc) (Φ := fun v W' => v = .agg cm ∧ W' = _) (gv_load_row rfl rfl (show (W2.alloc (.cells #[.slice (some ⟨g, 0, none⟩) 512 c] 49)).heap[w.heap.size]? = some (.cells cm 25 (0, 0)) from (Below.heap_alloc _ _ _ (by omega)).trans HM2.out) Tryd.underlying25 rfl HSM.out ⟨rfl, rfl⟩) ?_; rintro v W' ⟨rfl, rfl⟩)
    refine ⟨trivial, ?_⟩
    refine (each_in Fence.wide _ trivial rfl cm _).mono ?_
    rintro e W4 ⟨rfl, hW4⟩
    obtain ⟨b6, hb6⟩ : ∃ b6, b6 = W2.heap.size := ⟨_, rfl⟩
    have hsz : (W2.alloc (.cells #[.slice (some ⟨g, 0, none⟩) 512 c] 49)).heap.size = b6 + 1 := by rw [World.size_alloc, hb6]
    have hz4 : W4.heap.size = b6 + 1 + 1 := by rw [hW4, World.size_alloc, hsz]
    have hu4 : Up W2 W4 := by rw [hW4]; exact ((Chg.refl _ W2).alloc _).alloc _
    have hbx : W4.cell? ⟨b6, 0, none⟩ = some (.slice (some ⟨g, 0, none⟩) 512 c) := cell_of_row W4 b6 0 _ _ _ (by
      rw [hW4, hb6]; exact (Boxed.new W2 49 (.slice (some ⟨g, 0, none⟩) 512 c)).alloc _)
    have hrow4 : W4.heap[b6 + 1]? = some (.cells cm 25 (0, 0)) := by rw [hW4, ← hsz]; exact heap_alloc_last _ _
    have hcell : ∀ j, j < 32 → W4.cell? ⟨b6 + 1, j, none⟩ = some (.int .u8 (m.getD j 0)) := fun j hj => (cell_of_row W4 _ j _ _ _ hrow4).trans (HMX.out j hj)
    rw [hsz, ← hb6]
    have HBX := Lib.hid hbx
    have HCELL := Lib.hid hcell
    have HZ := Lib.hid hz4
    have HROW4 := Lib.hid (HROW2.out.chg hu4 (fun h => h))
    have HKC4 := Lib.hid (cell_of_row W4 (w.heap.size + 1) 0 _ _ _ (hu4.heap HK2.out (fun h => h)))
    have HR4 := Lib.hid (hu4.heap HR2.out (fun h => h))
    have HU4 := Lib.hid (HU0.out.trans (HU2.out.trans hu4))
    have HC4 := Lib.hid ((HC0.out.then HU2.out (fun _ h => h.elim)).then hu4 (fun _ h => h.elim))
    have HLA4 := Lib.hid (HLA.out.up (HU0.out.trans (HU2.out.trans hu4)))
    have HRR4 := Lib.hid (fun r hr => Rng.up (HRR.out r hr) (HU0.out.trans (HU2.out.trans hu4)))
    have HLENS := Lib.hid (fun r (hr : r < 512) => HV.out.lens r (by have := HL5.out; omega))
    have hgl2 : g < b6 := by omega
    have hg2 : w.heap.size + 1 + 1 < g := by omega
    clear hsz hz4 hu4 hbx hrow4 hcell hW4 HM2 HR2 HK2 HROW2 HU2 HC0 HU0 HM0 HR0 HK0 HZ0 HRR hzz0 hgl hg hz2 hb6
    gi_wp2_with fail
    refine wpIn_rangeFunc_ownG (n := 5) (F := Fence.wide) rfl (by omega) (gf := 86) (lb := #[.pointer (some ⟨b6 + 1, 0, none⟩)]) rfl trivial (enters_of Tryd.func86 (by kernel_rfl) rfl)
      (eachn_stops Fence.wide 4 trivial rfl (by omega) (b6 + 1) m W4 (by have := HZ.out; omega) HLM.out HBM.out HCELL.out) KeepC.trans (fun W l o o' hl ho _ _ => KeepC.put (by have := HZ.out; omega) ho) (Below.refl _ _) (fun _ => rfl)
      (LSt W4 g m sg)
      (fun _ _ _ => False) (lst_own _ _ _ _ _ (Nat.le_refl _) (by have := HZ.out; omega)) (fun _ _ _ _ _ hs _ _ => hs) ⟨Chg.refl _ _, HROW4.out⟩
      (fun x => { tmps := #[.agg cm, .slice (some ⟨b0, off, none⟩) 512 ac, .pointer (some ⟨w.heap.size, 0, none⟩), .pointer (some ⟨w.heap.size + 1, 0, none⟩), .pointer (some ⟨w.heap.size + 1 + 1, 0, none⟩), .int .i64 0, .pointer (some ⟨b6, 0, none⟩), .int .i64 ((x % 256 : Nat) : Int), .int .i64 (bitI m (x % 256)), .slice (some ⟨b0, off, none⟩) 512 ac, .int .i64 512, .bool false, undef, .slice (some ⟨b0, off, none⟩) 512 ac, .slice (some ⟨g, 0, none⟩) 512 c, .agg cm, .func (.func 86) #[] #[.pointer (some ⟨b6 + 1, 0, none⟩)], .int .i64 ((x % 256 : Nat) : Int), .int .i64 (bitI m (x % 256)), undef, undef, undef, undef, undef, undef, undef, undef, undef, undef, undef, undef, undef, undef, undef, undef, undef, undef, undef, undef, undef, undef, undef, undef, undef, undef, undef, undef, undef], defers := [] }) ?assign ?body ?done ?stop
    case assign =>
      intro l x W K hK
      unfold encN
      gi_wp2
      exact hK
    case body =>
      rintro l pre x W ⟨hch, hrow⟩ hlt
      obtain ⟨k, hk⟩ : ∃ k, x % 256 = k := ⟨_, rfl⟩
      have hk2 : k < 256 := by omega
      have hbd := bitI_bd m k
      obtain ⟨bn, hbn⟩ : ∃ bn : Nat, bitI m k = bn := ⟨(bitI m k).toNat, by omega⟩
      have hbn2 : bn ≤ 1 := by omega
      have hpq : 2 * k + bn ≠ 2 * k + 1 - bn := by omega
      clear hbd
      dsimp only
      rw [hk, hbn]
      have hs0 := HLENS.out (2 * k) (by omega)
      have hy0 := HLENS.out (2 * k + 1) (by omega)
      have hrg0 := HRR4.out (2 * k) (by omega)
      have hrg1 := HRR4.out (2 * k + 1) (by omega)
      have hxe : stepI (sg.getD (2 * k) []) (67 + (k : Int)) bn = stepI (sg.getD (2 * k) []) (67 + (k : Int)) bn := rfl
      obtain ⟨s0, hs0'⟩ : ∃ x, sg.getD (2 * k) [] = x := ⟨_, rfl⟩
      obtain ⟨y1, hy1'⟩ : ∃ x, sg.getD (2 * k + 1) [] = x := ⟨_, rfl⟩
      obtain ⟨x1, hx1'⟩ : ∃ x, stepI s0 (67 + (k : Int)) bn = x := ⟨_, rfl⟩
      have HUPD : Hid (∀ hs, updL m sg hs x = (hs.set (2 * k + bn) x1).set (2 * k + 1 - bn) y1) := Lib.hid (fun hs => by
        unfold updL
        rw [hk, hbn, hs0', hy1', hx1', Int.toNat_natCast])
      have HX1L : Hid (x1.length = 32) := Lib.hid (by rw [← hx1']; exact stepI_len _ _ _)
      have HX1B : Hid (Bytes x1) := Lib.hid (by rw [← hx1']; exact stepI_bytes _ _ _)
      rw [hs0'] at hs0 hrg0
      rw [hy1'] at hy0 hrg1
      have HX1E := Lib.hid hx1'
      have HS0L := Lib.hid hs0.1
      have HS0B := Lib.hid hs0.2
      have HY1L := Lib.hid hy0.1
      have HY1B := Lib.hid hy0.2
      have hchd : Chg (fun i => i = g) W4 W.drew := hch.drew
      have HRG0 := Lib.hid (fun j u hu => hchd.cell (hrg0 j u hu) (by simp only; omega))
      have HRG1 := Lib.hid (fun j u hu => hchd.cell (hrg1 j u hu) (by simp only; omega))
      have HKC := Lib.hid (hchd.cell HKC4.out (by simp only; omega))
      have HBC := Lib.hid (hchd.cell HBX.out (by simp only; omega))
      have HLAo := Lib.hid (HLA4.out.chg hchd (by omega) (by omega))
      have HTP : Hid (W.drew.there g (32 * (2 * k + bn)) 32) := Lib.hid (hrow.2 (2 * k + bn) (by omega)).2.2.2
      have HTQ : Hid (W.drew.there g (32 * (2 * k + 1 - bn)) 32) := Lib.hid (hrow.2 (2 * k + 1 - bn) (by omega)).2.2.2
      have HROW := Lib.hid (show HRow W.drew g _ from hrow)
      have HCH := Lib.hid hch
      clear hk hbn hs0 hy0 hrg0 hrg1 hxe hs0' hy1' hx1' hchd hrow hch
      gi_wp2_with fail
      refine MT.region_monoIn (wideF.round l) (RowExt g (2 * k + bn) (2 * k + 1 - bn) (u8s x1) (u8s y1)) [fun v _ => v = .slice (some ⟨g, 0, none⟩) 512 c,
          fun v _ => v = .int .i64 (k : Int),
          fun v _ => v = .int .i64 (2 * (k : Int)),
          fun v _ => v = .int .i64 (bn : Int),
          fun v _ => v = .int .i64 (2 * (k : Int) + (bn : Int)),
          fun v _ => v = .slice (some ⟨g, 0, none⟩) 512 c,
          fun v _ => v = .int .i64 (k : Int),
          fun v _ => v = .int .i64 (2 * (k : Int)),
          fun v _ => v = .int .i64 (2 * (k : Int) + 1),
          fun v _ => v = .int .i64 (bn : Int),
          fun v _ => v = .int .i64 (2 * (k : Int) + 1 - (bn : Int)),
          fun v _ => v = .slice (some ⟨b0, off, none⟩) 512 ac,
          fun v _ => v = .int .i64 (k : Int),
          fun v _ => v = .int .i64 (2 * (k : Int)),
          fun v _ => v = .pointer (some ⟨b0, off + 32 * (2 * k), none⟩),
          fun v _ => v = hashV s0,
          fun v _ => v = .int .i64 (k : Int),
          fun v _ => v = .int .i64 (bn : Int),
          fun v _ => v = hashV x1,
          fun v _ => v = .slice (some ⟨b0, off, none⟩) 512 ac,
          fun v _ => v = .int .i64 (k : Int),
          fun v _ => v = .int .i64 (2 * (k : Int)),
          fun v _ => v = .int .i64 (2 * (k : Int) + 1),
          fun v _ => v = .pointer (some ⟨b0, off + 32 * (2 * k + 1), none⟩),
          fun v _ => v = hashV y1,
          fun v _ => v = .pointer (some ⟨g, 32 * (2 * k + bn), none⟩),
          fun _ W => W.rangeAt g (32 * (2 * k + bn)) (u8s x1),
          fun v _ => v = .pointer (some ⟨g, 32 * (2 * k + 1 - bn), none⟩),
          fun _ W => W.rangeAt g (32 * (2 * k + 1 - bn)) (u8s y1)] (by kernel_rfl) (by kernel_rfl) (by kernel_rfl) (RowExt.refl _ _ _ _ _) (fun _ _ _ => RowExt.trans) (by simp) ?_ ?_ ?_
      · simp only [List.forall_mem_cons]
        exact ⟨fun _ _ _ _ _ h => h, fun _ _ _ _ _ h => h, fun _ _ _ _ _ h => h, fun _ _ _ _ _ h => h, fun _ _ _ _ _ h => h, fun _ _ _ _ _ h => h, fun _ _ _ _ _ h => h, fun _ _ _ _ _ h => h, fun _ _ _ _ _ h => h, fun _ _ _ _ _ h => h, fun _ _ _ _ _ h => h, fun _ _ _ _ _ h => h, fun _ _ _ _ _ h => h, fun _ _ _ _ _ h => h, fun _ _ _ _ _ h => h, fun _ _ _ _ _ h => h, fun _ _ _ _ _ h => h, fun _ _ _ _ _ h => h, fun _ _ _ _ _ h => h, fun _ _ _ _ _ h => h, fun _ _ _ _ _ h => h, fun _ _ _ _ _ h => h, fun _ _ _ _ _ h => h, fun _ _ _ _ _ h => h, fun _ _ _ _ _ h => h, fun _ _ _ _ _ h => h, fun _ _ _ _ he h => he.2.2 _ _ (by rw [u8s_len, HX1L.out]) (fun _ => rfl) (fun e => absurd e hpq) h, fun _ _ _ _ _ h => h, fun _ _ _ _ he h => he.2.2 _ _ (by rw [u8s_len, HY1L.out]) (fun e => absurd e.symm hpq) (fun _ => rfl) h, by simp⟩
      · refine ⟨?_, ?_, ?_, ?_, ?_, ?_, ?_, ?_, ?_, ?_, ?_, ?_, ?_, ?_, ?_, ?_, ?_, ?_, ?_, ?_, ?_, ?_, ?_, ?_, ?_, ?_, ?_, ?_, ?_, trivial⟩
        · intro ρ w1 hw h0 hc hg hf hd
          have s6 : ρ (.tmp 6) = .pointer (some ⟨b6, 0, none⟩) := h0 6 (by kernel_rfl)
          refine ⟨fun _ => ?_, fun h => by cases h⟩
          clear h0 hg hd
          clear hc hf
          have c0 := hw.1.cell HBC.out (by simp only; omega)
          refine Gives.value (w' := w1) ?_ ⟨RowExt.refl _ _ _ _ _ _, rfl⟩
          go_simp
        · intro ρ w1 hw h0 hc hg hf hd
          have s7 : ρ (.tmp 7) = .int .i64 (k : Int) := h0 7 (by kernel_rfl)
          refine ⟨fun _ => ?_, fun h => by cases h⟩
          clear h0 hg hd
          exact gives_move rfl ⟨RowExt.refl _ _ _ _ _ _, s7⟩
        · intro ρ w1 hw h0 hc hg hf hd
          have d1 := hd ⟨1, .data⟩ (by simp) rfl _ _ _ rfl rfl rfl
          refine ⟨fun _ => ?_, fun h => by cases h⟩
          clear h0 hg hd
          clear hf
          refine Gives.value (w' := w1) ?_ ⟨RowExt.refl _ _ _ _ _ _, rfl⟩
          go_simp
          exact wrap_small _ (by omega) (by omega)
        · intro ρ w1 hw h0 hc hg hf hd
          have s8 : ρ (.tmp 8) = .int .i64 (bn : Int) := h0 8 (by kernel_rfl)
          refine ⟨fun _ => ?_, fun h => by cases h⟩
          clear h0 hg hd
          exact gives_move rfl ⟨RowExt.refl _ _ _ _ _ _, s8⟩
        · intro ρ w1 hw h0 hc hg hf hd
          have d2 := hd ⟨2, .data⟩ (by simp) rfl _ _ _ rfl rfl rfl
          have d3 := hd ⟨3, .data⟩ (by simp) rfl _ _ _ rfl rfl rfl
          refine ⟨fun _ => ?_, fun h => by cases h⟩
          clear h0 hg hd
          clear hf
          refine Gives.value (w' := w1) ?_ ⟨RowExt.refl _ _ _ _ _ _, rfl⟩
          go_simp
          exact wrap_small _ (by omega) (by omega)
        · intro ρ w1 hw h0 hc hg hf hd
          have s6 : ρ (.tmp 6) = .pointer (some ⟨b6, 0, none⟩) := h0 6 (by kernel_rfl)
          refine ⟨fun _ => ?_, fun h => by cases h⟩
          clear h0 hg hd
          clear hc hf
          have c0 := hw.1.cell HBC.out (by simp only; omega)
          refine Gives.value (w' := w1) ?_ ⟨RowExt.refl _ _ _ _ _ _, rfl⟩
          go_simp
        · intro ρ w1 hw h0 hc hg hf hd
          have s7 : ρ (.tmp 7) = .int .i64 (k : Int) := h0 7 (by kernel_rfl)
          refine ⟨fun _ => ?_, fun h => by cases h⟩
          clear h0 hg hd
          exact gives_move rfl ⟨RowExt.refl _ _ _ _ _ _, s7⟩
        · intro ρ w1 hw h0 hc hg hf hd
          have d6 := hd ⟨6, .data⟩ (by simp) rfl _ _ _ rfl rfl rfl
          refine ⟨fun _ => ?_, fun h => by cases h⟩
          clear h0 hg hd
          clear hf
          refine Gives.value (w' := w1) ?_ ⟨RowExt.refl _ _ _ _ _ _, rfl⟩
          go_simp
          exact wrap_small _ (by omega) (by omega)
        · intro ρ w1 hw h0 hc hg hf hd
          have d7 := hd ⟨7, .data⟩ (by simp) rfl _ _ _ rfl rfl rfl
          refine ⟨fun _ => ?_, fun h => by cases h⟩
          clear h0 hg hd
          clear hf
          refine Gives.value (w' := w1) ?_ ⟨RowExt.refl _ _ _ _ _ _, rfl⟩
          go_simp
          exact wrap_small _ (by omega) (by omega)
        · intro ρ w1 hw h0 hc hg hf hd
          have s8 : ρ (.tmp 8) = .int .i64 (bn : Int) := h0 8 (by kernel_rfl)
          refine ⟨fun _ => ?_, fun h => by cases h⟩
          clear h0 hg hd
          exact gives_move rfl ⟨RowExt.refl _ _ _ _ _ _, s8⟩
        · intro ρ w1 hw h0 hc hg hf hd
          have d8 := hd ⟨8, .data⟩ (by simp) rfl _ _ _ rfl rfl rfl
          have d9 := hd ⟨9, .data⟩ (by simp) rfl _ _ _ rfl rfl rfl
          refine ⟨fun _ => ?_, fun h => by cases h⟩
          clear h0 hg hd
          clear hf
          refine Gives.value (w' := w1) ?_ ⟨RowExt.refl _ _ _ _ _ _, rfl⟩
          go_simp
          exact wrap_small _ (by omega) (by omega)
        · intro ρ w1 hw h0 hc hg hf hd
          have s3 : ρ (.tmp 3) = .pointer (some ⟨w.heap.size + 1, 0, none⟩) := h0 3 (by kernel_rfl)
          refine ⟨fun _ => ?_, fun h => by cases h⟩
          clear h0 hg hd
          clear hc hf
          have c0 := hw.1.cell HKC.out (by simp only; omega)
          refine Gives.value (w' := w1) ?_ ⟨RowExt.refl _ _ _ _ _ _, rfl⟩
          go_simp
        · intro ρ w1 hw h0 hc hg hf hd
          have s7 : ρ (.tmp 7) = .int .i64 (k : Int) := h0 7 (by kernel_rfl)
          refine ⟨fun _ => ?_, fun h => by cases h⟩
          clear h0 hg hd
          exact gives_move rfl ⟨RowExt.refl _ _ _ _ _ _, s7⟩
        · intro ρ w1 hw h0 hc hg hf hd
          have d12 := hd ⟨12, .data⟩ (by simp) rfl _ _ _ rfl rfl rfl
          refine ⟨fun _ => ?_, fun h => by cases h⟩
          clear h0 hg hd
          clear hf
          refine Gives.value (w' := w1) ?_ ⟨RowExt.refl _ _ _ _ _ _, rfl⟩
          go_simp
          exact wrap_small _ (by omega) (by omega)
        · intro ρ w1 hw h0 hc hg hf hd
          have d11 := hd ⟨11, .data⟩ (by simp) rfl _ _ _ rfl rfl rfl
          have d13 := hd ⟨13, .data⟩ (by simp) rfl _ _ _ rfl rfl rfl
          refine ⟨fun _ => ?_, fun h => by cases h⟩
          clear h0 hg hd
          clear hf
          refine Gives.value (w' := w1) ?_ ⟨RowExt.refl _ _ _ _ _ _, rfl⟩
          go_simp
          rw [if_pos (by omega), show off + (2 * (k : Int)).toNat * 32 = off + 32 * (2 * k) by omega]
        · intro ρ w1 hw h0 hc hg hf hd
          have d14 := hd ⟨14, .data⟩ (by simp) rfl _ _ _ rfl rfl rfl
          refine ⟨fun _ => ?_, fun h => by cases h⟩
          clear h0 hg hd
          exact gives_hash rfl d14 HS0L.out (fun j u hu => hw.1.cell (HRG0.out j u hu) (by simp only; omega)) ⟨RowExt.refl _ _ _ _ _ _, rfl⟩
        · intro ρ w1 hw h0 hc hg hf hd
          have s7 : ρ (.tmp 7) = .int .i64 (k : Int) := h0 7 (by kernel_rfl)
          refine ⟨fun _ => ?_, fun h => by cases h⟩
          clear h0 hg hd
          exact gives_move rfl ⟨RowExt.refl _ _ _ _ _ _, s7⟩
        · intro ρ w1 hw h0 hc hg hf hd
          have s8 : ρ (.tmp 8) = .int .i64 (bn : Int) := h0 8 (by kernel_rfl)
          refine ⟨fun _ => ?_, fun h => by cases h⟩
          clear h0 hg hd
          exact gives_move rfl ⟨RowExt.refl _ _ _ _ _ _, s8⟩
        · intro ρ w1 hw h0 hc hg hf hd
          have d15 := hd ⟨15, .data⟩ (by simp) rfl _ _ _ rfl rfl rfl
          have d16 := hd ⟨16, .data⟩ (by simp) rfl _ _ _ rfl rfl rfl
          have d17 := hd ⟨17, .data⟩ (by simp) rfl _ _ _ rfl rfl rfl
          refine ⟨fun _ => ?_, fun h => by cases h⟩
          clear h0 hg hd
          have hcl := lend_any s0 k bn w1 HS0L.out HS0B.out (by omega) (by omega) (by omega) (by omega) (HLAo.out.chg hw.1 (by omega) (by omega))
          unfold HashPost at hcl
          rw [HX1E.out] at hcl
          refine gives_call rfl hf Tryd.func73 rfl (by kernel_rfl) (args := #[hashV s0, .int .i64 k, .int .i64 bn]) (by simp [hc, d15, d16, d17]) (hcl.mono ?_)
          rintro e w2 ⟨rfl, hb⟩
          exact ⟨_, rfl, RowExt.of_up (up_below hb), rfl⟩
        · intro ρ w1 hw h0 hc hg hf hd
          have s3 : ρ (.tmp 3) = .pointer (some ⟨w.heap.size + 1, 0, none⟩) := h0 3 (by kernel_rfl)
          refine ⟨fun _ => ?_, fun h => by cases h⟩
          clear h0 hg hd
          clear hc hf
          have c0 := hw.1.cell HKC.out (by simp only; omega)
          refine Gives.value (w' := w1) ?_ ⟨RowExt.refl _ _ _ _ _ _, rfl⟩
          go_simp
        · intro ρ w1 hw h0 hc hg hf hd
          have s7 : ρ (.tmp 7) = .int .i64 (k : Int) := h0 7 (by kernel_rfl)
          refine ⟨fun _ => ?_, fun h => by cases h⟩
          clear h0 hg hd
          exact gives_move rfl ⟨RowExt.refl _ _ _ _ _ _, s7⟩
        · intro ρ w1 hw h0 hc hg hf hd
          have d20 := hd ⟨20, .data⟩ (by simp) rfl _ _ _ rfl rfl rfl
          refine ⟨fun _ => ?_, fun h => by cases h⟩
          clear h0 hg hd
          clear hf
          refine Gives.value (w' := w1) ?_ ⟨RowExt.refl _ _ _ _ _ _, rfl⟩
          go_simp
          exact wrap_small _ (by omega) (by omega)
        · intro ρ w1 hw h0 hc hg hf hd
          have d21 := hd ⟨21, .data⟩ (by simp) rfl _ _ _ rfl rfl rfl
          refine ⟨fun _ => ?_, fun h => by cases h⟩
          clear h0 hg hd
          clear hf
          refine Gives.value (w' := w1) ?_ ⟨RowExt.refl _ _ _ _ _ _, rfl⟩
          go_simp
          exact wrap_small _ (by omega) (by omega)
        · intro ρ w1 hw h0 hc hg hf hd
          have d19 := hd ⟨19, .data⟩ (by simp) rfl _ _ _ rfl rfl rfl
          have d22 := hd ⟨22, .data⟩ (by simp) rfl _ _ _ rfl rfl rfl
          refine ⟨fun _ => ?_, fun h => by cases h⟩
          clear h0 hg hd
          clear hf
          refine Gives.value (w' := w1) ?_ ⟨RowExt.refl _ _ _ _ _ _, rfl⟩
          go_simp
          rw [if_pos (by omega), show off + (2 * (k : Int) + 1).toNat * 32 = off + 32 * (2 * k + 1) by omega]
        · intro ρ w1 hw h0 hc hg hf hd
          have d23 := hd ⟨23, .data⟩ (by simp) rfl _ _ _ rfl rfl rfl
          refine ⟨fun _ => ?_, fun h => by cases h⟩
          clear h0 hg hd
          exact gives_hash rfl d23 HY1L.out (fun j u hu => hw.1.cell (HRG1.out j u hu) (by simp only; omega)) ⟨RowExt.refl _ _ _ _ _ _, rfl⟩
        · intro ρ w1 hw h0 hc hg hf hd
          have d0 := hd ⟨0, .data⟩ (by simp) rfl _ _ _ rfl rfl rfl
          have d4 := hd ⟨4, .data⟩ (by simp) rfl _ _ _ rfl rfl rfl
          refine ⟨fun _ => ?_, fun h => by cases h⟩
          clear h0 hg hd
          clear hf
          refine Gives.value (w' := w1) ?_ ⟨RowExt.refl _ _ _ _ _ _, rfl⟩
          go_simp
          rw [if_pos (by omega), show (2 * (k : Int) + (bn : Int)).toNat * 32 = 32 * (2 * k + bn) by omega]
        · intro ρ w1 hw h0 hc hg hf hd
          have d25 := hd ⟨25, .data⟩ (by simp) rfl _ _ _ rfl rfl rfl
          have d18 := hd ⟨18, .data⟩ (by simp) rfl _ _ _ rfl rfl rfl
          refine ⟨fun _ => ?_, fun h => by cases h⟩
          clear h0 hg hd
          have ht := hw.2.1 _ HTP.out
          have hrs := RowExt.store0 (g := g) (p := 2 * k + bn) (q := 2 * k + 1 - bn) (x := u8s x1) (y := u8s y1) w1 hpq (by rw [u8s_len, HX1L.out]) ht
          exact gv_store_mid rfl d25 d18 (by rw [show (u8s x1).toArray.size = 32 by simp [u8s, HX1L.out]]; exact ht) (by rw [HS25.out]; simp [u8s, HX1L.out]) (all_one (u8s_one _)) hrs
        · intro ρ w1 hw h0 hc hg hf hd
          have d5 := hd ⟨5, .data⟩ (by simp) rfl _ _ _ rfl rfl rfl
          have d10 := hd ⟨10, .data⟩ (by simp) rfl _ _ _ rfl rfl rfl
          refine ⟨fun _ => ?_, fun h => by cases h⟩
          clear h0 hg hd
          clear hf
          refine Gives.value (w' := w1) ?_ ⟨RowExt.refl _ _ _ _ _ _, rfl⟩
          go_simp
          rw [if_pos (by omega), show ((2 * (k : Int) + 1).toNat - bn) * 32 = 32 * (2 * k + 1 - bn) by omega]
        · intro ρ w1 hw h0 hc hg hf hd
          have d27 := hd ⟨27, .data⟩ (by simp) rfl _ _ _ rfl rfl rfl
          have d24 := hd ⟨24, .data⟩ (by simp) rfl _ _ _ rfl rfl rfl
          refine ⟨fun _ => ?_, fun h => by cases h⟩
          clear h0 hg hd
          have ht := hw.2.1 _ HTQ.out
          have hrs := RowExt.store1 (g := g) (p := 2 * k + bn) (q := 2 * k + 1 - bn) (x := u8s x1) (y := u8s y1) w1 hpq (by rw [u8s_len, HY1L.out]) ht
          exact gv_store_mid rfl d27 d24 (by rw [show (u8s y1).toArray.size = 32 by simp [u8s, HY1L.out]]; exact ht) (by rw [HS25.out]; simp [u8s, HY1L.out]) (all_one (u8s_one _)) hrs
      · intro vs w2 hw hr
        have h26 := hr 26 _ rfl
        have h28 := hr 28 _ rfl
        clear hr
        dsimp only [putsL, restL]
        simp only [Act.put, List.setIfInBounds_toArray, List.set_cons_zero, List.set_cons_succ]
        have HALL := Lib.hid hw
        have HF := Lib.hid (HROW.out.ext hw (by omega) (by omega) hpq HX1L.out HX1B.out HY1L.out HY1B.out h26 h28)
        clear hw h26 h28
        gi_wp2
        have hall : Chg (fun i => i = g) W w2 := (Chg.refl _ W).drew.trans HALL.out.1
        refine ⟨keeps_chg _ hall (fun i o hi ho => ?_), keepC_cells hall (by have := HZ.out; have := HCH.out.size; omega) (by omega), ⟨HCH.out.trans hall, ?_⟩⟩
        · subst hi
          obtain ⟨u, hu⟩ := Option.isSome_iff_exists.1 (HTP.out 0 (by omega)).1
          have hu' : W.cell? ⟨i, 32 * (2 * k + bn) + 0, none⟩ = some u := hu
          cases o with
          | cells => rfl
          | _ => simp [World.cell?, ho] at hu'
        · rw [List.foldl_append, List.foldl_cons, List.foldl_nil, HUPD.out]
          exact HF.out
    case done =>
      rintro D ys W hD rfl ⟨hch, hrow⟩ hK
      have hc := hch.cell HBX.out (by simp only; omega)
      have hslh := hrow.slh hc1 (by unfold maxLen; omega)
      change SlH W _ (recL m sg sg 256) at hslh
      have hl512 : (recL m sg sg 256).length = 512 := by rw [recL_len]; exact HL5.out
      have hpub := public_any _ _ W hslh (by rw [hl512]; omega) (HLA4.out.chg hch (by omega) (by omega))
      obtain ⟨hx, hhx, _, hone, hold, hszx, _⟩ := hash_parts _ (hash_size (4 :: (recL m sg sg 256).flatten))
      unfold SumPost at hpub
      rw [hhx] at hpub
      have HPUB := Lib.hid hpub
      have HHX := Lib.hid hhx
      have HSZ := Lib.hid hszx
      have HON := Lib.hid hone
      have HOL := Lib.hid hold
      have H4 := Lib.hid (hch.heap HR4.out (by omega))
      have HC5 := Lib.hid (HC4.out.then hch (fun i hi => .inl (by omega)))
      have hDW := (Array.getElem?_eq_some_iff.1 hK).1
      have HK := Lib.hid hK
      have hzD := HZ.out
      clear hslh hpub hhx hszx hone hold hch hrow hl512 hK
      gi_wp2_with fail
      refine ⟨trivial, ?_⟩
      refine (callsIn_wide.2 HPUB.out).mono ?_
      rintro e W5 ⟨rfl, hb5⟩
      have H5 := Lib.hid ((up_below hb5).heap H4.out (fun h => h))
      have HC6 := Lib.hid ((HC5.out.then (up_below hb5) (fun _ h => h.elim)).setRow (w.heap.size + 1 + 1) (.inl (by omega)) hx)
      have HKD : Hid ((W5.setRow (w.heap.size + 1 + 1) hx).heap[D]? = some (.deferred (some []))) := Lib.hid ((setRow_other _ _ _ _ (by omega)).trans ((up_below hb5).heap HK.out (fun h => h)))
      clear hb5 H4 HC5 HPUB HK
      gi_wp2_with (refine wpListIn_gives wideF rfl (fun c hc => by cases hc) (Φ := fun v W' => v = undef ∧ W' = _) (gv_store_row rfl rfl rfl H5.out HSZ.out HOL.out HON.out ⟨rfl, rfl⟩) ?_; rintro v W' ⟨rfl, rfl⟩)
      refine ⟨by simp, .inl ⟨_, _, rfl, run_takeDeferred HKD.out, ?_⟩⟩
      have hrd : ((W5.setRow (w.heap.size + 1 + 1) hx).putObj D (.deferred none)).heap[w.heap.size + 1 + 1]? = some (.cells hx 25 (0, 0)) :=
        ((grownBy_putObj' (W5.setRow (w.heap.size + 1 + 1) hx) D (.deferred none)).block (w.heap.size + 1 + 1) (Array.getElem?_eq_some_iff.1 (setRow_same W5 (w.heap.size + 1 + 1) hx _ 25 (0, 0) H5.out)).1 (by simp; omega)).trans (setRow_same W5 (w.heap.size + 1 + 1) hx _ 25 (0, 0) H5.out)
      exact ⟨_, results_row_tmp rfl _ _ (w.heap.size + 1 + 1) 25 hx (0, 0) _ (by rfl) hrd _ (by rfl) Tryd.underlying25 rfl HSZ.out,
        (HC6.out.below (Nat.le_refl _) (fun _ h => h)).trans (belowK_b (w := w) (Nat.le_refl _) _ D _ _ (by omega) HKD.out rfl rfl), .inl ⟨HL5.out, by rw [HHX.out]; rfl⟩⟩
    case stop =>
      rintro D c pre W _ _ h _
      exact h.elim
end Go.Proofs.YtaahffminoekfaaDoor
