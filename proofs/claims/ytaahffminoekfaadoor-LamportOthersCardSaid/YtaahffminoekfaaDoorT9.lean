/-
  TagHashes, walked.
-/
import Derived.Test.YtaahffminoekfaaDoorT8
namespace Go.Proofs.YtaahffminoekfaaDoor
open Go.RowKit
theorem gives_load_mid {P : Program} {o : Oper} {ρ : Operand → Value} {w : World} {Φ : Value → World → Prop} {x : Operand} {ty : TypeId} {b off : Nat} {cs : List Value} {d : TypeDesc} (ho : o.op = .load ty x) (hx : ρ x = .pointer (some ⟨b, off, none⟩))
    (hc : w.rangeAt b off cs) (hu : P.underlying ty = some d) (hd : d.isRow = true) (hi : (P.info? ty).map (·.size) = some cs.length) (k : Φ (.agg cs.toArray) w) : Gives P o ρ w Φ := by
  refine Gives.value (v := .agg cs.toArray) (w' := w) ?_ k
  unfold execOp
  simp only [ho, hx, Instr.loadAt, Instr.sureAddr, Sem.run_bind, Sem.run_pure, Result.andThen_ok, run_loadVar_mid w b off ty cs d hc hu hd hi]
theorem info25l {l : List Int} (h : l.length = 32) : (Tryd.prog.info? 25).map (·.size) = some (u8s l).length := by rw [info25]; simp [u8s, h]
theorem Rng.up {w w' : World} {b o : Nat} {cs : List Value} (h : w.rangeAt b o cs) (hu : Up w w') : w'.rangeAt b o cs := fun j v hv => hu.cell (h j v hv) (fun h => h)
theorem gives_hash {o : Oper} {ρ : Operand → Value} {w : World} {Φ : Value → World → Prop} {x : Operand} {b off : Nat} {h : List Int} (ho : o.op = .load 25 x) (hx : ρ x = .pointer (some ⟨b, off, none⟩)) (hl : h.length = 32)
    (hc : w.rangeAt b off (u8s h)) (k : Φ (hashV h) w) : Gives Tryd.prog o ρ w Φ :=
  gives_load_mid ho hx hc Tryd.underlying25 rfl (info25l hl) k
set_option maxRecDepth 100000 in
set_option maxHeartbeats 4000000 in
theorem tagHashes_any (v : Value) (hs : List (List Int)) (a b' : Int) (w : World) (h : SlH w v hs) (ha1 : -9223372036854775808 ≤ a) (ha2 : a ≤ 9223372036854775807) (hb1 : -9223372036854775808 ≤ b') (hb2 : b' ≤ 9223372036854775807) (hla : Laid w) :
    Calls Tryd.prog 10 #[v, .int .i64 a, .int .i64 b'] w (TruePost w) := by
  have hl2 := hla.lt
  have hsm := h.small
  have hsh : ∃ A c, v = .slice A hs.length c := by
    rcases h with ⟨rfl, rfl⟩ | ⟨a, c, rfl, _⟩
    · exact ⟨_, _, rfl⟩
    · exact ⟨_, _, rfl⟩
  obtain ⟨A, ac, rfl⟩ := hsh
  have HV := Lib.hid h
  have HLA := Lib.hid hla
  clear h hla
  by_cases hg : (70 : Int) < hs.length
  · have HA := Lib.hid (awake2_any w HLA.out)
    go_enter Tryd.func10, Tryd.ntmps10
    go_wp2_with (go_at_call 30; refine HA.out.mono ?_; rintro e w' ⟨rfl, hb⟩)
    go_ret
    exact ⟨rfl, hb⟩
  go_enter Tryd.func10, Tryd.ntmps10
  go_wp2_with fail
  go_loopw [7, 16] (fun o i wr => ∃ (k c : Nat) (B : Option Addr), k ≤ hs.length ∧ i = .int .i64 k ∧ o = .slice B k c ∧ wr.ownsRow w.heap.size 22 1 (.slice B k c) k (eltVs A k) ∧
    Chg (fun i => w.heap.size ≤ i) w wr) (fun _ i _ => hs.length - (intOf i).toNat)
  case atStart => exact ⟨0, 0, none, by omega, rfl, rfl, World.ownsRow_nil _ _ _ _, Chg.refl _ _⟩
  case round =>
    rename World => wo
    obtain ⟨k, c, B, hk, rfl, rfl, ho, hc⟩ := hrel
    have HO := Lib.hid ho
    have HC := Lib.hid hc
    have hwz : w.heap.size ≤ wo.heap.size := hc.size
    clear ho hc
    by_cases hkl : (k : Int) < hs.length
    · obtain ⟨b, off, cap, hv, _, _, hbs, _⟩ := HV.out.form (by omega)
      injection hv with h1 h2 h3
      subst h1 h3
      obtain ⟨A2, c2, w2, hrun, ho2, hc2, _⟩ := push_run (P := Tryd.prog) wo 29 29 w.heap.size 22 (.slice none 0 0) 24 Tryd.underlying29 (by kernel_rfl) rfl _ _ _ HO.out [.slice (some ⟨b, off + k * 32, none⟩) 32 32] 1 rfl (by simp [Value.oneCell']) (by omega) (by omega) hwz
      have HR2 := Lib.hid hrun
      have HO2 := Lib.hid ho2
      have HC2 := Lib.hid hc2
      clear hrun ho2 hc2 h2
      go_wp2_with (at_builtin; refine wpList_run_append rfl _ _ 29 rfl _ _ rfl rfl 29 rfl HR2.out ?_)
      go_roundw
      case rel =>
        refine ⟨k + 1, c2, A2, by omega, by go_num, rfl, ?_, ?_⟩
        · rw [eltVs_succ]; exact HO2.out
        · exact HC.out.then HC2.out (fun i hi => .inl (HO.out.lt i hi).1)
      case measure => simp [intOf]; omega
    · obtain rfl : k = hs.length := by omega
      have hsb : SlBB wo (.slice B hs.length c) hs := own_slbb HO.out rfl (by simp [eltVs]) (fun r hr => by
        rw [eltVs_at _ _ _ hr]
        exact (HV.out.chg HC.out (fun i hi => by omega)).elt r hr)
      have HB := Lib.hid hsb
      have hfl : hs.flatten.length = 32 * hs.length := flat_len32 _ (fun r hr => (HV.out.lens r hr).1)
      have hfb : Bytes hs.flatten := bytes_flat hs fun r hr => (HV.out.lens r hr).2
      have hpub := public_any _ hs wo (HV.out.chg HC.out (fun i hi => by omega)) (by omega) (HLA.out.chg HC.out (by omega) (by omega))
      obtain ⟨F, hF⟩ : ∃ F, hs.flatten = F := ⟨_, rfl⟩
      rw [hF] at hfl hfb hpub
      have HFL := Lib.hid hfl
      have HFB := Lib.hid hfb
      have HF := Lib.hid hF
      have HP := Lib.hid hpub
      clear hsb hfl hfb hF hpub
      go_wp2_with fail
      refine HP.out.mono ?_
      rintro e w2 ⟨rfl, b2⟩
      have U2 := Lib.hid (up_below b2)
      have C2 := Lib.hid (HC.out.then (up_below b2) (fun _ h => h.elim))
      clear b2
      go_wp2_with fail
      refine (bytes_any 4 _ hs F w2 (HB.out.up U2.out) HF.out (by rw [HFL.out]; omega)).mono ?_
      rintro e w3 ⟨A3, c3, rfl, o3, b3⟩
      have S3 := Lib.hid (own_src o3)
      have U3 := Lib.hid (U2.out.trans (up_below b3))
      have C3 := Lib.hid (C2.out.then (up_below b3) (fun _ h => h.elim))
      clear b3 o3 U2 C2
      go_wp2_with fail
      refine (shaSum_any (4 :: F) _ w3 S3.out (Bytes.cons (by omega) HFB.out) (by simp only [List.length_cons]; rw [HFL.out]; omega) (HLA.out.chg C3.out (by omega) (by omega))).mono ?_
      rintro e w4 ⟨rfl, b4⟩
      have U4 := Lib.hid (U3.out.trans (up_below b4))
      have C4 := Lib.hid (C3.out.then (up_below b4) (fun _ h => h.elim))
      have q1 := neq25 (shaI (4 :: F)) (shaI (4 :: F)) (hash_size _) (hash_size _)
      have q2 := fun op x y W => guard25 op x y (shaI (4 :: F)) (shaI (4 :: F)) W
      rw [show (shaI (4 :: F) == shaI (4 :: F)) = true by simp] at q1
      clear b4 U3 C3 S3 HFB HFL
      by_cases h2 : (hs.length : Int) < 2
      · have HA := Lib.hid (awake2_any w4 (HLA.out.chg C4.out (by omega) (by omega)))
        go_wp2_with (go_at_call 30; refine HA.out.mono ?_; rintro e w' ⟨rfl, hb⟩)
        go_ret
        exact ⟨rfl, (C4.out.then (up_below hb) (fun _ h => h.elim)).below (Nat.le_refl _) (fun _ h => h)⟩
      go_wp2_with fail
      clear q1 q2
      obtain ⟨b, off, cap, hv, _, _, hbs, hrows⟩ := HV.out.form (by omega)
      injection hv with h1 _ h3
      subst h1 h3
      obtain ⟨g, cap, hgf, hgb, hgc, hgm⟩ := own_form HO.out (by omega)
      injection hgf with h1 _ h3
      subst h1 h3
      obtain ⟨l0, k0, r0⟩ := hrows 0 (by omega)
      obtain ⟨l1, k1, r1⟩ := hrows 1 (by omega)
      have e0 : w4.drew.cell? ⟨g, 0, none⟩ = some (.slice (some ⟨b, off + 0 * 32, none⟩) 32 32) := U4.out.drew.cell (HO.out.cells rfl 0 _ (by rw [List.getElem?_eq_some_iff]; exact ⟨by simp [eltVs]; omega, by simp [eltVs, eltV]⟩)) (fun h => h)
      have e1 : w4.drew.cell? ⟨g, 1, none⟩ = some (.slice (some ⟨b, off + 1 * 32, none⟩) 32 32) := U4.out.drew.cell (HO.out.cells rfl 1 _ (by rw [List.getElem?_eq_some_iff]; exact ⟨by simp [eltVs]; omega, by simp [eltVs, eltV]⟩)) (fun h => h)
      have s0 : SlB w4.drew (.slice (some ⟨b, off + 0 * 32, none⟩) 32 32) (hs.getD 0 []) := ((HV.out.chg C4.out.drew (fun i hi => by omega)).elt 0 (by omega)).1
      have s1 : SlB w4.drew (.slice (some ⟨b, off + 1 * 32, none⟩) 32 32) (hs.getD 1 []) := ((HV.out.chg C4.out.drew (fun i hi => by omega)).elt 1 (by omega)).1
      have t0 : w4.drew.rangeAt b off (u8s (hs.getD 0 [])) := fun j u hu => C4.out.drew.cell (r0 j u hu) (by show ¬ w.heap.size ≤ b; omega)
      have t1 : w4.drew.rangeAt b (off + 32) (u8s (hs.getD 1 [])) := fun j u hu => C4.out.drew.cell (r1 j u hu) (by show ¬ w.heap.size ≤ b; omega)
      obtain ⟨x0, hx0⟩ : ∃ x, hs.getD 0 [] = x := ⟨_, rfl⟩
      obtain ⟨x1, hx1⟩ : ∃ x, hs.getD 1 [] = x := ⟨_, rfl⟩
      rw [hx0] at l0 k0 s0 t0
      rw [hx1] at l1 k1 s1 t1
      simp only [Nat.zero_mul, Nat.one_mul, Nat.add_zero] at e0 e1 s0 s1
      have L0 := Lib.hid l0
      have L1 := Lib.hid l1
      have K0 := Lib.hid k0
      have K1 := Lib.hid k1
      have X0 := Lib.hid t0
      have X1 := Lib.hid t1
      have S0 := Lib.hid s0
      have S1 := Lib.hid s1
      have E0 := Lib.hid e0
      have E1 := Lib.hid e1
      have HLA4 := Lib.hid (HLA.out.chg C4.out.drew (by omega) (by omega))
      have HC0 : Hid (Up w4.drew w4.drew) := Lib.hid (Chg.refl _ _)
      have HU := Lib.hid C4.out.drew
      have h2' : (2 : Int) ≤ hs.length := by omega
      clear l0 l1 k0 k1 t0 t1 s0 s1 e0 e1 hx0 hx1 hrows r0 r1 HO HC HB HLA C4 U4
      rename Hid (Laid w4.drew) => HLA
      refine region_mono Up [fun v _ => v = .slice (some ⟨b, off, none⟩) hs.length ac,
          fun v _ => v = .pointer (some ⟨b, off, none⟩),
          fun v _ => v = hashV x0,
          fun v _ => v = .slice (some ⟨b, off, none⟩) hs.length ac,
          fun v _ => v = .pointer (some ⟨b, off + 32, none⟩),
          fun v _ => v = hashV x1,
          fun v _ => v = hashV (shaI (1 :: (x0 ++ x1))),
          fun v _ => v = .slice (some ⟨g, 0, none⟩) hs.length c,
          fun v _ => v = .pointer (some ⟨g, 0, none⟩),
          fun v w' => SlB w' v x0,
          fun v _ => v = .slice (some ⟨g, 0, none⟩) hs.length c,
          fun v _ => v = .pointer (some ⟨g, 1, none⟩),
          fun v w' => SlB w' v x1,
          fun v w' => SlBB w' v [x0, x1],
          fun v w' => SlB w' v (1 :: (x0 ++ x1)),
          fun v _ => v = hashV (shaI (1 :: (x0 ++ x1))),
          fun v _ => v = .bool true,
          fun v _ => v = .bool true,
          fun v _ => v = .slice (some ⟨b, off, none⟩) hs.length ac,
          fun v _ => v = .pointer (some ⟨b, off, none⟩),
          fun v _ => v = hashV x0,
          fun v _ => v = .int .i64 a,
          fun v _ => v = .int .i64 b',
          fun v _ => v = hashV (shaI (2 :: (x0 ++ num2 a ++ num2 b'))),
          fun v _ => v = .slice (some ⟨g, 0, none⟩) hs.length c,
          fun v _ => v = .pointer (some ⟨g, 0, none⟩),
          fun v w' => SlB w' v x0,
          fun v _ => v = .func (.func 40) #[] #[],
          fun v _ => v = .int .i64 a,
          fun v w' => SlB w' v (num2 a),
          fun v _ => v = .func (.func 40) #[] #[],
          fun v _ => v = .int .i64 b',
          fun v w' => SlB w' v (num2 b'),
          fun v w' => SlBB w' v [x0, num2 a, num2 b'],
          fun v w' => SlB w' v (2 :: (x0 ++ num2 a ++ num2 b')),
          fun v _ => v = hashV (shaI (2 :: (x0 ++ num2 a ++ num2 b'))),
          fun v _ => v = .bool true,
          fun v _ => v = .bool true,
          fun v _ => v = .bool true,
          fun v _ => v = .slice (some ⟨b, off, none⟩) hs.length ac,
          fun v _ => v = .pointer (some ⟨b, off, none⟩),
          fun v _ => v = hashV x0,
          fun v _ => v = .int .i64 a,
          fun v _ => v = .int .i64 b',
          fun v _ => v = hashV (shaI (3 :: (x0 ++ num4 a ++ num4 b'))),
          fun v _ => v = .slice (some ⟨g, 0, none⟩) hs.length c,
          fun v _ => v = .pointer (some ⟨g, 0, none⟩),
          fun v w' => SlB w' v x0,
          fun v _ => v = .func (.func 40) #[] #[],
          fun v _ => v = .int .i64 a,
          fun v w' => SlB w' v (num4 a),
          fun v _ => v = .func (.func 40) #[] #[],
          fun v _ => v = .int .i64 b',
          fun v w' => SlB w' v (num4 b'),
          fun v w' => SlBB w' v [x0, num4 a, num4 b'],
          fun v w' => SlB w' v (3 :: (x0 ++ num4 a ++ num4 b')),
          fun v _ => v = hashV (shaI (3 :: (x0 ++ num4 a ++ num4 b'))),
          fun v _ => v = .bool true,
          fun v _ => v = .bool true,
          fun v _ => v = .bool true,
          fun v _ => v = .bool true,
          fun v _ => v = .bool true] (by kernel_rfl) (by kernel_rfl) (Chg.refl _) (fun _ _ _ => Chg.trans) (by simp) ?_ ?_ ?_
      · simp only [List.forall_mem_cons]
        exact ⟨fun _ _ _ _ _ h => h, fun _ _ _ _ _ h => h, fun _ _ _ _ _ h => h, fun _ _ _ _ _ h => h, fun _ _ _ _ _ h => h, fun _ _ _ _ _ h => h, fun _ _ _ _ _ h => h, fun _ _ _ _ _ h => h, fun _ _ _ _ _ h => h, fun _ _ _ _ hu h => SlB.up h hu, fun _ _ _ _ _ h => h, fun _ _ _ _ _ h => h, fun _ _ _ _ hu h => SlB.up h hu, fun _ _ _ _ hu h => SlBB.up h hu, fun _ _ _ _ hu h => SlB.up h hu, fun _ _ _ _ _ h => h, fun _ _ _ _ _ h => h, fun _ _ _ _ _ h => h, fun _ _ _ _ _ h => h, fun _ _ _ _ _ h => h, fun _ _ _ _ _ h => h, fun _ _ _ _ _ h => h, fun _ _ _ _ _ h => h, fun _ _ _ _ _ h => h, fun _ _ _ _ _ h => h, fun _ _ _ _ _ h => h, fun _ _ _ _ hu h => SlB.up h hu, fun _ _ _ _ _ h => h, fun _ _ _ _ _ h => h, fun _ _ _ _ hu h => SlB.up h hu, fun _ _ _ _ _ h => h, fun _ _ _ _ _ h => h, fun _ _ _ _ hu h => SlB.up h hu, fun _ _ _ _ hu h => SlBB.up h hu, fun _ _ _ _ hu h => SlB.up h hu, fun _ _ _ _ _ h => h, fun _ _ _ _ _ h => h, fun _ _ _ _ _ h => h, fun _ _ _ _ _ h => h, fun _ _ _ _ _ h => h, fun _ _ _ _ _ h => h, fun _ _ _ _ _ h => h, fun _ _ _ _ _ h => h, fun _ _ _ _ _ h => h, fun _ _ _ _ _ h => h, fun _ _ _ _ _ h => h, fun _ _ _ _ _ h => h, fun _ _ _ _ hu h => SlB.up h hu, fun _ _ _ _ _ h => h, fun _ _ _ _ _ h => h, fun _ _ _ _ hu h => SlB.up h hu, fun _ _ _ _ _ h => h, fun _ _ _ _ _ h => h, fun _ _ _ _ hu h => SlB.up h hu, fun _ _ _ _ hu h => SlBB.up h hu, fun _ _ _ _ hu h => SlB.up h hu, fun _ _ _ _ _ h => h, fun _ _ _ _ _ h => h, fun _ _ _ _ _ h => h, fun _ _ _ _ _ h => h, fun _ _ _ _ _ h => h, fun _ _ _ _ _ h => h, by simp⟩
      · refine ⟨?_, ?_, ?_, ?_, ?_, ?_, ?_, ?_, ?_, ?_, ?_, ?_, ?_, ?_, ?_, ?_, ?_, ?_, ?_, ?_, ?_, ?_, ?_, ?_, ?_, ?_, ?_, ?_, ?_, ?_, ?_, ?_, ?_, ?_, ?_, ?_, ?_, ?_, ?_, ?_, ?_, ?_, ?_, ?_, ?_, ?_, ?_, ?_, ?_, ?_, ?_, ?_, ?_, ?_, ?_, ?_, ?_, ?_, ?_, ?_, ?_, ?_, trivial⟩
        · intro ρ w1 hw h0 hc hg hf hd
          have s0 : ρ (.tmp 0) = .slice (some ⟨b, off, none⟩) hs.length ac := h0 0 (by kernel_rfl)
          refine ⟨fun _ => ?_, fun h => by cases h⟩
          clear h0 hg hd
          exact gives_move rfl ⟨Chg.refl _ _, s0⟩
        · intro ρ w1 hw h0 hc hg hf hd
          have d0 := hd ⟨0, .data⟩ (by simp) rfl _ _ _ rfl rfl rfl
          refine ⟨fun _ => ?_, fun h => by cases h⟩
          clear h0 hg hd
          clear hf
          refine Gives.value (w' := w1) ?_ ⟨Chg.refl _ _, rfl⟩
          go_simp
          intro h
          exfalso
          first | omega | (rw [h] at h2'; simp at h2')
        · intro ρ w1 hw h0 hc hg hf hd
          have d1 := hd ⟨1, .data⟩ (by simp) rfl _ _ _ rfl rfl rfl
          refine ⟨fun _ => ?_, fun h => by cases h⟩
          clear h0 hg hd
          exact gives_hash rfl d1 L0.out (Rng.up X0.out hw) ⟨Chg.refl _ _, rfl⟩
        · intro ρ w1 hw h0 hc hg hf hd
          have s0 : ρ (.tmp 0) = .slice (some ⟨b, off, none⟩) hs.length ac := h0 0 (by kernel_rfl)
          refine ⟨fun _ => ?_, fun h => by cases h⟩
          clear h0 hg hd
          exact gives_move rfl ⟨Chg.refl _ _, s0⟩
        · intro ρ w1 hw h0 hc hg hf hd
          have d3 := hd ⟨3, .data⟩ (by simp) rfl _ _ _ rfl rfl rfl
          refine ⟨fun _ => ?_, fun h => by cases h⟩
          clear h0 hg hd
          clear hf
          refine Gives.value (w' := w1) ?_ ⟨Chg.refl _ _, rfl⟩
          go_simp
          intro h
          exfalso
          first | omega | (rw [h] at h2'; simp at h2')
        · intro ρ w1 hw h0 hc hg hf hd
          have d4 := hd ⟨4, .data⟩ (by simp) rfl _ _ _ rfl rfl rfl
          refine ⟨fun _ => ?_, fun h => by cases h⟩
          clear h0 hg hd
          exact gives_hash rfl d4 L1.out (Rng.up X1.out hw) ⟨Chg.refl _ _, rfl⟩
        · intro ρ w1 hw h0 hc hg hf hd
          have d2 := hd ⟨2, .data⟩ (by simp) rfl _ _ _ rfl rfl rfl
          have d5 := hd ⟨5, .data⟩ (by simp) rfl _ _ _ rfl rfl rfl
          refine ⟨fun _ => ?_, fun h => by cases h⟩
          clear h0 hg hd
          have LA := HLA.out.up (HC0.out.trans hw)
          refine gives_call rfl hf Tryd.func41 rfl (by kernel_rfl) (args := #[hashV x0, hashV x1]) (by simp [hc, d2, d5]) ((node_any x0 x1 w1 L0.out L1.out K0.out K1.out LA).mono ?_)
          rintro e w2 ⟨rfl, hb⟩
          exact ⟨_, rfl, up_below hb, rfl⟩
        · intro ρ w1 hw h0 hc hg hf hd
          have s7 : ρ (.tmp 7) = .slice (some ⟨g, 0, none⟩) hs.length c := h0 7 (by kernel_rfl)
          refine ⟨fun _ => ?_, fun h => by cases h⟩
          clear h0 hg hd
          exact gives_move rfl ⟨Chg.refl _ _, s7⟩
        · intro ρ w1 hw h0 hc hg hf hd
          have d7 := hd ⟨7, .data⟩ (by simp) rfl _ _ _ rfl rfl rfl
          refine ⟨fun _ => ?_, fun h => by cases h⟩
          clear h0 hg hd
          clear hf
          refine Gives.value (w' := w1) ?_ ⟨Chg.refl _ _, rfl⟩
          go_simp
          intro h
          exfalso
          first | omega | (rw [h] at h2'; simp at h2')
        · intro ρ w1 hw h0 hc hg hf hd
          have d8 := hd ⟨8, .data⟩ (by simp) rfl _ _ _ rfl rfl rfl
          refine ⟨fun _ => ?_, fun h => by cases h⟩
          clear h0 hg hd
          clear hc hf
          have c0 := hw.cell E0.out (fun h => h)
          refine Gives.value (w' := w1) ?_ ⟨Chg.refl _ _, S0.out.up hw⟩
          go_simp
        · intro ρ w1 hw h0 hc hg hf hd
          have s7 : ρ (.tmp 7) = .slice (some ⟨g, 0, none⟩) hs.length c := h0 7 (by kernel_rfl)
          refine ⟨fun _ => ?_, fun h => by cases h⟩
          clear h0 hg hd
          exact gives_move rfl ⟨Chg.refl _ _, s7⟩
        · intro ρ w1 hw h0 hc hg hf hd
          have d10 := hd ⟨10, .data⟩ (by simp) rfl _ _ _ rfl rfl rfl
          refine ⟨fun _ => ?_, fun h => by cases h⟩
          clear h0 hg hd
          clear hf
          refine Gives.value (w' := w1) ?_ ⟨Chg.refl _ _, rfl⟩
          go_simp
          intro h
          exfalso
          first | omega | (rw [h] at h2'; simp at h2')
        · intro ρ w1 hw h0 hc hg hf hd
          have d11 := hd ⟨11, .data⟩ (by simp) rfl _ _ _ rfl rfl rfl
          refine ⟨fun _ => ?_, fun h => by cases h⟩
          clear h0 hg hd
          clear hc hf
          have c0 := hw.cell E1.out (fun h => h)
          refine Gives.value (w' := w1) ?_ ⟨Chg.refl _ _, S1.out.up hw⟩
          go_simp
        · intro ρ w1 hw h0 hc hg hf hd
          have d9 := hd ⟨9, .data⟩ (by simp) rfl _ _ _ rfl rfl rfl
          have d12 := hd ⟨12, .data⟩ (by simp) rfl _ _ _ rfl rfl rfl
          refine ⟨fun _ => ?_, fun h => by cases h⟩
          clear h0 hg hd
          clear hc hf
          have hs := rows2 w1 _ _ x0 x1 d9 K0.out d12 K1.out
          obtain ⟨B2, c2, e2, _⟩ := d9.shape
          obtain ⟨B4, c4, e4, _⟩ := d12.shape
          rw [e2, e4] at hs
          clear d9 d12
          refine Gives.value ?_ ⟨(Chg.refl _ w1).alloc _, hs⟩
          clear hs
          go_simp
        · intro ρ w1 hw h0 hc hg hf hd
          have d13 := hd ⟨13, .data⟩ (by simp) rfl _ _ _ rfl rfl rfl
          refine ⟨fun _ => ?_, fun h => by cases h⟩
          clear h0 hg hd
          refine gives_call rfl hf Tryd.func32 rfl (by kernel_rfl) (args := #[.int .u8 1, ρ (.tmp 50)]) (by simp [hc]) ((bytes_any 1 _ _ (x0 ++ x1) w1 d13 (by simp) (by simp [L0.out, L1.out])).mono ?_)
          rintro e w2 ⟨A, c, rfl, ho, hb⟩
          exact ⟨_, rfl, up_below hb, own_src ho⟩
        · intro ρ w1 hw h0 hc hg hf hd
          have d14 := hd ⟨14, .data⟩ (by simp) rfl _ _ _ rfl rfl rfl
          refine ⟨fun _ => ?_, fun h => by cases h⟩
          clear h0 hg hd
          have LA := HLA.out.up (HC0.out.trans hw)
          refine gives_call rfl hf Tryd.func22 rfl (by kernel_rfl) (args := #[ρ (.tmp 51)]) (by simp) ((shaSum_any (1 :: (x0 ++ x1)) _ w1 d14 (Bytes.cons (by omega) (K0.out.append K1.out)) (by simp [L0.out, L1.out]) LA).mono ?_)
          rintro e w2 ⟨rfl, hb⟩
          exact ⟨_, rfl, up_below hb, rfl⟩
        · intro ρ w1 hw h0 hc hg hf hd
          have d6 := hd ⟨6, .data⟩ (by simp) rfl _ _ _ rfl rfl rfl
          have d15 := hd ⟨15, .data⟩ (by simp) rfl _ _ _ rfl rfl rfl
          refine ⟨fun _ => ?_, fun h => by cases h⟩
          clear h0 hg hd
          exact gives_same rfl d6 d15 (hash_size _) ⟨Chg.refl _ _, rfl⟩
        · intro ρ w1 hw h0 hc hg hf hd
          have d16 := hd ⟨16, .data⟩ (by simp) rfl _ _ _ rfl rfl rfl
          refine ⟨fun _ => ?_, fun h => by cases h⟩
          clear h0 hg hd
          exact gives_move rfl ⟨Chg.refl _ _, d16⟩
        · intro ρ w1 hw h0 hc hg hf hd
          have d17 := hd ⟨17, .guard⟩ (by simp) rfl _ _ _ rfl rfl rfl
          have s0 : ρ (.tmp 0) = .slice (some ⟨b, off, none⟩) hs.length ac := h0 0 (by kernel_rfl)
          refine ⟨fun _ => ?_, fun h => by rw [wantedBy_true rfl rfl rfl d17] at h; cases h⟩
          clear d17
          clear h0 hg hd
          exact gives_move rfl ⟨Chg.refl _ _, s0⟩
        · intro ρ w1 hw h0 hc hg hf hd
          have d18 := hd ⟨18, .data⟩ (by simp) rfl _ _ _ rfl rfl rfl
          have d17 := hd ⟨17, .guard⟩ (by simp) rfl _ _ _ rfl rfl rfl
          refine ⟨fun _ => ?_, fun h => by rw [wantedBy_true rfl rfl rfl d17] at h; cases h⟩
          clear d17
          clear h0 hg hd
          clear hf
          refine Gives.value (w' := w1) ?_ ⟨Chg.refl _ _, rfl⟩
          go_simp
          intro h
          exfalso
          first | omega | (rw [h] at h2'; simp at h2')
        · intro ρ w1 hw h0 hc hg hf hd
          have d19 := hd ⟨19, .data⟩ (by simp) rfl _ _ _ rfl rfl rfl
          have d17 := hd ⟨17, .guard⟩ (by simp) rfl _ _ _ rfl rfl rfl
          refine ⟨fun _ => ?_, fun h => by rw [wantedBy_true rfl rfl rfl d17] at h; cases h⟩
          clear d17
          clear h0 hg hd
          exact gives_hash rfl d19 L0.out (Rng.up X0.out hw) ⟨Chg.refl _ _, rfl⟩
        · intro ρ w1 hw h0 hc hg hf hd
          have d17 := hd ⟨17, .guard⟩ (by simp) rfl _ _ _ rfl rfl rfl
          have s1 : ρ (.tmp 1) = .int .i64 a := h0 1 (by kernel_rfl)
          refine ⟨fun _ => ?_, fun h => by rw [wantedBy_true rfl rfl rfl d17] at h; cases h⟩
          clear d17
          clear h0 hg hd
          exact gives_move rfl ⟨Chg.refl _ _, s1⟩
        · intro ρ w1 hw h0 hc hg hf hd
          have d17 := hd ⟨17, .guard⟩ (by simp) rfl _ _ _ rfl rfl rfl
          have s2 : ρ (.tmp 2) = .int .i64 b' := h0 2 (by kernel_rfl)
          refine ⟨fun _ => ?_, fun h => by rw [wantedBy_true rfl rfl rfl d17] at h; cases h⟩
          clear d17
          clear h0 hg hd
          exact gives_move rfl ⟨Chg.refl _ _, s2⟩
        · intro ρ w1 hw h0 hc hg hf hd
          have d20 := hd ⟨20, .data⟩ (by simp) rfl _ _ _ rfl rfl rfl
          have d21 := hd ⟨21, .data⟩ (by simp) rfl _ _ _ rfl rfl rfl
          have d22 := hd ⟨22, .data⟩ (by simp) rfl _ _ _ rfl rfl rfl
          have d17 := hd ⟨17, .chain⟩ (by simp) rfl _ _ _ rfl rfl rfl
          refine ⟨fun _ => ?_, fun h => by rw [wantedBy_true rfl rfl rfl d17] at h; cases h⟩
          clear d17
          clear h0 hg hd
          have LA := HLA.out.up (HC0.out.trans hw)
          refine gives_call rfl hf Tryd.func42 rfl (by kernel_rfl) (args := #[hashV x0, .int .i64 a, .int .i64 b']) (by simp [hc, d20, d21, d22]) ((chain_any x0 a b' w1 L0.out K0.out ha1 ha2 hb1 hb2 LA).mono ?_)
          rintro e w2 ⟨rfl, hb⟩
          exact ⟨_, rfl, up_below hb, rfl⟩
        · intro ρ w1 hw h0 hc hg hf hd
          have d17 := hd ⟨17, .guard⟩ (by simp) rfl _ _ _ rfl rfl rfl
          have s7 : ρ (.tmp 7) = .slice (some ⟨g, 0, none⟩) hs.length c := h0 7 (by kernel_rfl)
          refine ⟨fun _ => ?_, fun h => by rw [wantedBy_true rfl rfl rfl d17] at h; cases h⟩
          clear d17
          clear h0 hg hd
          exact gives_move rfl ⟨Chg.refl _ _, s7⟩
        · intro ρ w1 hw h0 hc hg hf hd
          have d24 := hd ⟨24, .data⟩ (by simp) rfl _ _ _ rfl rfl rfl
          have d17 := hd ⟨17, .guard⟩ (by simp) rfl _ _ _ rfl rfl rfl
          refine ⟨fun _ => ?_, fun h => by rw [wantedBy_true rfl rfl rfl d17] at h; cases h⟩
          clear d17
          clear h0 hg hd
          clear hf
          refine Gives.value (w' := w1) ?_ ⟨Chg.refl _ _, rfl⟩
          go_simp
          intro h
          exfalso
          first | omega | (rw [h] at h2'; simp at h2')
        · intro ρ w1 hw h0 hc hg hf hd
          have d25 := hd ⟨25, .data⟩ (by simp) rfl _ _ _ rfl rfl rfl
          have d17 := hd ⟨17, .guard⟩ (by simp) rfl _ _ _ rfl rfl rfl
          refine ⟨fun _ => ?_, fun h => by rw [wantedBy_true rfl rfl rfl d17] at h; cases h⟩
          clear d17
          clear h0 hg hd
          clear hc hf
          have c0 := hw.cell E0.out (fun h => h)
          refine Gives.value (w' := w1) ?_ ⟨Chg.refl _ _, S0.out.up hw⟩
          go_simp
        · intro ρ w1 hw h0 hc hg hf hd
          have d17 := hd ⟨17, .guard⟩ (by simp) rfl _ _ _ rfl rfl rfl
          have s9 : ρ (.tmp 9) = .func (.func 40) #[] #[] := h0 9 (by kernel_rfl)
          refine ⟨fun _ => ?_, fun h => by rw [wantedBy_true rfl rfl rfl d17] at h; cases h⟩
          clear d17
          clear h0 hg hd
          exact gives_move rfl ⟨Chg.refl _ _, s9⟩
        · intro ρ w1 hw h0 hc hg hf hd
          have d17 := hd ⟨17, .guard⟩ (by simp) rfl _ _ _ rfl rfl rfl
          have s1 : ρ (.tmp 1) = .int .i64 a := h0 1 (by kernel_rfl)
          refine ⟨fun _ => ?_, fun h => by rw [wantedBy_true rfl rfl rfl d17] at h; cases h⟩
          clear d17
          clear h0 hg hd
          exact gives_move rfl ⟨Chg.refl _ _, s1⟩
        · intro ρ w1 hw h0 hc hg hf hd
          have d27 := hd ⟨27, .data⟩ (by simp) rfl _ _ _ rfl rfl rfl
          have d28 := hd ⟨28, .data⟩ (by simp) rfl _ _ _ rfl rfl rfl
          have d17 := hd ⟨17, .guard⟩ (by simp) rfl _ _ _ rfl rfl rfl
          refine ⟨fun _ => ?_, fun h => by rw [wantedBy_true rfl rfl rfl d17] at h; cases h⟩
          clear d17
          clear h0 hg hd
          refine gives_call_value rfl d27 Tryd.func40 rfl (by kernel_rfl) (args := #[.int .i64 a, .int .i64 2]) (by simp [hc, d28]) ((refNumber2_any a w1 ha1 ha2).mono ?_)
          rintro e w2 ⟨A, c, rfl, ho, hb⟩
          exact ⟨_, rfl, up_below hb, own_src ho⟩
        · intro ρ w1 hw h0 hc hg hf hd
          have d17 := hd ⟨17, .guard⟩ (by simp) rfl _ _ _ rfl rfl rfl
          have s9 : ρ (.tmp 9) = .func (.func 40) #[] #[] := h0 9 (by kernel_rfl)
          refine ⟨fun _ => ?_, fun h => by rw [wantedBy_true rfl rfl rfl d17] at h; cases h⟩
          clear d17
          clear h0 hg hd
          exact gives_move rfl ⟨Chg.refl _ _, s9⟩
        · intro ρ w1 hw h0 hc hg hf hd
          have d17 := hd ⟨17, .guard⟩ (by simp) rfl _ _ _ rfl rfl rfl
          have s2 : ρ (.tmp 2) = .int .i64 b' := h0 2 (by kernel_rfl)
          refine ⟨fun _ => ?_, fun h => by rw [wantedBy_true rfl rfl rfl d17] at h; cases h⟩
          clear d17
          clear h0 hg hd
          exact gives_move rfl ⟨Chg.refl _ _, s2⟩
        · intro ρ w1 hw h0 hc hg hf hd
          have d30 := hd ⟨30, .data⟩ (by simp) rfl _ _ _ rfl rfl rfl
          have d31 := hd ⟨31, .data⟩ (by simp) rfl _ _ _ rfl rfl rfl
          have d17 := hd ⟨17, .guard⟩ (by simp) rfl _ _ _ rfl rfl rfl
          refine ⟨fun _ => ?_, fun h => by rw [wantedBy_true rfl rfl rfl d17] at h; cases h⟩
          clear d17
          clear h0 hg hd
          refine gives_call_value rfl d30 Tryd.func40 rfl (by kernel_rfl) (args := #[.int .i64 b', .int .i64 2]) (by simp [hc, d31]) ((refNumber2_any b' w1 hb1 hb2).mono ?_)
          rintro e w2 ⟨A, c, rfl, ho, hb⟩
          exact ⟨_, rfl, up_below hb, own_src ho⟩
        · intro ρ w1 hw h0 hc hg hf hd
          have d26 := hd ⟨26, .data⟩ (by simp) rfl _ _ _ rfl rfl rfl
          have d29 := hd ⟨29, .data⟩ (by simp) rfl _ _ _ rfl rfl rfl
          have d32 := hd ⟨32, .data⟩ (by simp) rfl _ _ _ rfl rfl rfl
          have d17 := hd ⟨17, .guard⟩ (by simp) rfl _ _ _ rfl rfl rfl
          refine ⟨fun _ => ?_, fun h => by rw [wantedBy_true rfl rfl rfl d17] at h; cases h⟩
          clear d17
          clear h0 hg hd
          clear hc hf
          have hs := rows3 w1 _ _ _ x0 (num2 a) (num2 b') d26 K0.out d29 (num2_bytes a) d32 (num2_bytes b')
          obtain ⟨B2, c2, e2, _⟩ := d26.shape
          obtain ⟨B4, c4, e4, _⟩ := d29.shape
          obtain ⟨B6, c6, e6, _⟩ := d32.shape
          rw [e2, e4, e6] at hs
          clear d26 d29 d32
          refine Gives.value ?_ ⟨(Chg.refl _ w1).alloc _, hs⟩
          clear hs
          go_simp
        · intro ρ w1 hw h0 hc hg hf hd
          have d33 := hd ⟨33, .data⟩ (by simp) rfl _ _ _ rfl rfl rfl
          have d17 := hd ⟨17, .guard⟩ (by simp) rfl _ _ _ rfl rfl rfl
          refine ⟨fun _ => ?_, fun h => by rw [wantedBy_true rfl rfl rfl d17] at h; cases h⟩
          clear d17
          clear h0 hg hd
          refine gives_call rfl hf Tryd.func32 rfl (by kernel_rfl) (args := #[.int .u8 2, ρ (.tmp 70)]) (by simp [hc]) ((bytes_any 2 _ _ (x0 ++ num2 a ++ num2 b') w1 d33 (by simp) (by simp [L0.out, num2])).mono ?_)
          rintro e w2 ⟨A, c, rfl, ho, hb⟩
          exact ⟨_, rfl, up_below hb, own_src ho⟩
        · intro ρ w1 hw h0 hc hg hf hd
          have d34 := hd ⟨34, .data⟩ (by simp) rfl _ _ _ rfl rfl rfl
          have d17 := hd ⟨17, .guard⟩ (by simp) rfl _ _ _ rfl rfl rfl
          refine ⟨fun _ => ?_, fun h => by rw [wantedBy_true rfl rfl rfl d17] at h; cases h⟩
          clear d17
          clear h0 hg hd
          have LA := HLA.out.up (HC0.out.trans hw)
          refine gives_call rfl hf Tryd.func22 rfl (by kernel_rfl) (args := #[ρ (.tmp 71)]) (by simp) ((shaSum_any (2 :: (x0 ++ num2 a ++ num2 b')) _ w1 d34 (Bytes.cons (by omega) ((K0.out.append (num2_bytes a)).append (num2_bytes b'))) (by simp [L0.out, num2]) LA).mono ?_)
          rintro e w2 ⟨rfl, hb⟩
          exact ⟨_, rfl, up_below hb, rfl⟩
        · intro ρ w1 hw h0 hc hg hf hd
          have d23 := hd ⟨23, .data⟩ (by simp) rfl _ _ _ rfl rfl rfl
          have d35 := hd ⟨35, .data⟩ (by simp) rfl _ _ _ rfl rfl rfl
          have d17 := hd ⟨17, .guard⟩ (by simp) rfl _ _ _ rfl rfl rfl
          refine ⟨fun _ => ?_, fun h => by rw [wantedBy_true rfl rfl rfl d17] at h; cases h⟩
          clear d17
          clear h0 hg hd
          exact gives_same rfl d23 d35 (hash_size _) ⟨Chg.refl _ _, rfl⟩
        · intro ρ w1 hw h0 hc hg hf hd
          have d17 := hd ⟨17, .data⟩ (by simp) rfl _ _ _ rfl rfl rfl
          have d36 := hd ⟨36, .data⟩ (by simp) rfl _ _ _ rfl rfl rfl
          refine ⟨fun _ => ?_, fun h => by cases h⟩
          clear h0 hg hd
          clear hf
          refine Gives.value (w' := w1) ?_ ⟨Chg.refl _ _, rfl⟩
          go_simp
        · intro ρ w1 hw h0 hc hg hf hd
          have d37 := hd ⟨37, .data⟩ (by simp) rfl _ _ _ rfl rfl rfl
          refine ⟨fun _ => ?_, fun h => by cases h⟩
          clear h0 hg hd
          exact gives_move rfl ⟨Chg.refl _ _, d37⟩
        · intro ρ w1 hw h0 hc hg hf hd
          have d38 := hd ⟨38, .guard⟩ (by simp) rfl _ _ _ rfl rfl rfl
          have s0 : ρ (.tmp 0) = .slice (some ⟨b, off, none⟩) hs.length ac := h0 0 (by kernel_rfl)
          refine ⟨fun _ => ?_, fun h => by rw [wantedBy_true rfl rfl rfl d38] at h; cases h⟩
          clear d38
          clear h0 hg hd
          exact gives_move rfl ⟨Chg.refl _ _, s0⟩
        · intro ρ w1 hw h0 hc hg hf hd
          have d39 := hd ⟨39, .data⟩ (by simp) rfl _ _ _ rfl rfl rfl
          have d38 := hd ⟨38, .guard⟩ (by simp) rfl _ _ _ rfl rfl rfl
          refine ⟨fun _ => ?_, fun h => by rw [wantedBy_true rfl rfl rfl d38] at h; cases h⟩
          clear d38
          clear h0 hg hd
          clear hf
          refine Gives.value (w' := w1) ?_ ⟨Chg.refl _ _, rfl⟩
          go_simp
          intro h
          exfalso
          first | omega | (rw [h] at h2'; simp at h2')
        · intro ρ w1 hw h0 hc hg hf hd
          have d40 := hd ⟨40, .data⟩ (by simp) rfl _ _ _ rfl rfl rfl
          have d38 := hd ⟨38, .guard⟩ (by simp) rfl _ _ _ rfl rfl rfl
          refine ⟨fun _ => ?_, fun h => by rw [wantedBy_true rfl rfl rfl d38] at h; cases h⟩
          clear d38
          clear h0 hg hd
          exact gives_hash rfl d40 L0.out (Rng.up X0.out hw) ⟨Chg.refl _ _, rfl⟩
        · intro ρ w1 hw h0 hc hg hf hd
          have d38 := hd ⟨38, .guard⟩ (by simp) rfl _ _ _ rfl rfl rfl
          have s1 : ρ (.tmp 1) = .int .i64 a := h0 1 (by kernel_rfl)
          refine ⟨fun _ => ?_, fun h => by rw [wantedBy_true rfl rfl rfl d38] at h; cases h⟩
          clear d38
          clear h0 hg hd
          exact gives_move rfl ⟨Chg.refl _ _, s1⟩
        · intro ρ w1 hw h0 hc hg hf hd
          have d38 := hd ⟨38, .guard⟩ (by simp) rfl _ _ _ rfl rfl rfl
          have s2 : ρ (.tmp 2) = .int .i64 b' := h0 2 (by kernel_rfl)
          refine ⟨fun _ => ?_, fun h => by rw [wantedBy_true rfl rfl rfl d38] at h; cases h⟩
          clear d38
          clear h0 hg hd
          exact gives_move rfl ⟨Chg.refl _ _, s2⟩
        · intro ρ w1 hw h0 hc hg hf hd
          have d41 := hd ⟨41, .data⟩ (by simp) rfl _ _ _ rfl rfl rfl
          have d42 := hd ⟨42, .data⟩ (by simp) rfl _ _ _ rfl rfl rfl
          have d43 := hd ⟨43, .data⟩ (by simp) rfl _ _ _ rfl rfl rfl
          have d38 := hd ⟨38, .chain⟩ (by simp) rfl _ _ _ rfl rfl rfl
          refine ⟨fun _ => ?_, fun h => by rw [wantedBy_true rfl rfl rfl d38] at h; cases h⟩
          clear d38
          clear h0 hg hd
          have LA := HLA.out.up (HC0.out.trans hw)
          refine gives_call rfl hf Tryd.func43 rfl (by kernel_rfl) (args := #[hashV x0, .int .i64 a, .int .i64 b']) (by simp [hc, d41, d42, d43]) ((secret_any x0 a b' w1 L0.out K0.out ha1 ha2 hb1 hb2 LA).mono ?_)
          rintro e w2 ⟨rfl, hb⟩
          exact ⟨_, rfl, up_below hb, rfl⟩
        · intro ρ w1 hw h0 hc hg hf hd
          have d38 := hd ⟨38, .guard⟩ (by simp) rfl _ _ _ rfl rfl rfl
          have s7 : ρ (.tmp 7) = .slice (some ⟨g, 0, none⟩) hs.length c := h0 7 (by kernel_rfl)
          refine ⟨fun _ => ?_, fun h => by rw [wantedBy_true rfl rfl rfl d38] at h; cases h⟩
          clear d38
          clear h0 hg hd
          exact gives_move rfl ⟨Chg.refl _ _, s7⟩
        · intro ρ w1 hw h0 hc hg hf hd
          have d45 := hd ⟨45, .data⟩ (by simp) rfl _ _ _ rfl rfl rfl
          have d38 := hd ⟨38, .guard⟩ (by simp) rfl _ _ _ rfl rfl rfl
          refine ⟨fun _ => ?_, fun h => by rw [wantedBy_true rfl rfl rfl d38] at h; cases h⟩
          clear d38
          clear h0 hg hd
          clear hf
          refine Gives.value (w' := w1) ?_ ⟨Chg.refl _ _, rfl⟩
          go_simp
          intro h
          exfalso
          first | omega | (rw [h] at h2'; simp at h2')
        · intro ρ w1 hw h0 hc hg hf hd
          have d46 := hd ⟨46, .data⟩ (by simp) rfl _ _ _ rfl rfl rfl
          have d38 := hd ⟨38, .guard⟩ (by simp) rfl _ _ _ rfl rfl rfl
          refine ⟨fun _ => ?_, fun h => by rw [wantedBy_true rfl rfl rfl d38] at h; cases h⟩
          clear d38
          clear h0 hg hd
          clear hc hf
          have c0 := hw.cell E0.out (fun h => h)
          refine Gives.value (w' := w1) ?_ ⟨Chg.refl _ _, S0.out.up hw⟩
          go_simp
        · intro ρ w1 hw h0 hc hg hf hd
          have d38 := hd ⟨38, .guard⟩ (by simp) rfl _ _ _ rfl rfl rfl
          have s9 : ρ (.tmp 9) = .func (.func 40) #[] #[] := h0 9 (by kernel_rfl)
          refine ⟨fun _ => ?_, fun h => by rw [wantedBy_true rfl rfl rfl d38] at h; cases h⟩
          clear d38
          clear h0 hg hd
          exact gives_move rfl ⟨Chg.refl _ _, s9⟩
        · intro ρ w1 hw h0 hc hg hf hd
          have d38 := hd ⟨38, .guard⟩ (by simp) rfl _ _ _ rfl rfl rfl
          have s1 : ρ (.tmp 1) = .int .i64 a := h0 1 (by kernel_rfl)
          refine ⟨fun _ => ?_, fun h => by rw [wantedBy_true rfl rfl rfl d38] at h; cases h⟩
          clear d38
          clear h0 hg hd
          exact gives_move rfl ⟨Chg.refl _ _, s1⟩
        · intro ρ w1 hw h0 hc hg hf hd
          have d48 := hd ⟨48, .data⟩ (by simp) rfl _ _ _ rfl rfl rfl
          have d49 := hd ⟨49, .data⟩ (by simp) rfl _ _ _ rfl rfl rfl
          have d38 := hd ⟨38, .guard⟩ (by simp) rfl _ _ _ rfl rfl rfl
          refine ⟨fun _ => ?_, fun h => by rw [wantedBy_true rfl rfl rfl d38] at h; cases h⟩
          clear d38
          clear h0 hg hd
          refine gives_call_value rfl d48 Tryd.func40 rfl (by kernel_rfl) (args := #[.int .i64 a, .int .i64 4]) (by simp [hc, d49]) ((refNumber4_any a w1 ha1 ha2).mono ?_)
          rintro e w2 ⟨A, c, rfl, ho, hb⟩
          exact ⟨_, rfl, up_below hb, own_src ho⟩
        · intro ρ w1 hw h0 hc hg hf hd
          have d38 := hd ⟨38, .guard⟩ (by simp) rfl _ _ _ rfl rfl rfl
          have s9 : ρ (.tmp 9) = .func (.func 40) #[] #[] := h0 9 (by kernel_rfl)
          refine ⟨fun _ => ?_, fun h => by rw [wantedBy_true rfl rfl rfl d38] at h; cases h⟩
          clear d38
          clear h0 hg hd
          exact gives_move rfl ⟨Chg.refl _ _, s9⟩
        · intro ρ w1 hw h0 hc hg hf hd
          have d38 := hd ⟨38, .guard⟩ (by simp) rfl _ _ _ rfl rfl rfl
          have s2 : ρ (.tmp 2) = .int .i64 b' := h0 2 (by kernel_rfl)
          refine ⟨fun _ => ?_, fun h => by rw [wantedBy_true rfl rfl rfl d38] at h; cases h⟩
          clear d38
          clear h0 hg hd
          exact gives_move rfl ⟨Chg.refl _ _, s2⟩
        · intro ρ w1 hw h0 hc hg hf hd
          have d51 := hd ⟨51, .data⟩ (by simp) rfl _ _ _ rfl rfl rfl
          have d52 := hd ⟨52, .data⟩ (by simp) rfl _ _ _ rfl rfl rfl
          have d38 := hd ⟨38, .guard⟩ (by simp) rfl _ _ _ rfl rfl rfl
          refine ⟨fun _ => ?_, fun h => by rw [wantedBy_true rfl rfl rfl d38] at h; cases h⟩
          clear d38
          clear h0 hg hd
          refine gives_call_value rfl d51 Tryd.func40 rfl (by kernel_rfl) (args := #[.int .i64 b', .int .i64 4]) (by simp [hc, d52]) ((refNumber4_any b' w1 hb1 hb2).mono ?_)
          rintro e w2 ⟨A, c, rfl, ho, hb⟩
          exact ⟨_, rfl, up_below hb, own_src ho⟩
        · intro ρ w1 hw h0 hc hg hf hd
          have d47 := hd ⟨47, .data⟩ (by simp) rfl _ _ _ rfl rfl rfl
          have d50 := hd ⟨50, .data⟩ (by simp) rfl _ _ _ rfl rfl rfl
          have d53 := hd ⟨53, .data⟩ (by simp) rfl _ _ _ rfl rfl rfl
          have d38 := hd ⟨38, .guard⟩ (by simp) rfl _ _ _ rfl rfl rfl
          refine ⟨fun _ => ?_, fun h => by rw [wantedBy_true rfl rfl rfl d38] at h; cases h⟩
          clear d38
          clear h0 hg hd
          clear hc hf
          have hs := rows3 w1 _ _ _ x0 (num4 a) (num4 b') d47 K0.out d50 (num4_bytes a) d53 (num4_bytes b')
          obtain ⟨B2, c2, e2, _⟩ := d47.shape
          obtain ⟨B4, c4, e4, _⟩ := d50.shape
          obtain ⟨B6, c6, e6, _⟩ := d53.shape
          rw [e2, e4, e6] at hs
          clear d47 d50 d53
          refine Gives.value ?_ ⟨(Chg.refl _ w1).alloc _, hs⟩
          clear hs
          go_simp
        · intro ρ w1 hw h0 hc hg hf hd
          have d54 := hd ⟨54, .data⟩ (by simp) rfl _ _ _ rfl rfl rfl
          have d38 := hd ⟨38, .guard⟩ (by simp) rfl _ _ _ rfl rfl rfl
          refine ⟨fun _ => ?_, fun h => by rw [wantedBy_true rfl rfl rfl d38] at h; cases h⟩
          clear d38
          clear h0 hg hd
          refine gives_call rfl hf Tryd.func32 rfl (by kernel_rfl) (args := #[.int .u8 3, ρ (.tmp 91)]) (by simp [hc]) ((bytes_any 3 _ _ (x0 ++ num4 a ++ num4 b') w1 d54 (by simp) (by simp [L0.out, num4])).mono ?_)
          rintro e w2 ⟨A, c, rfl, ho, hb⟩
          exact ⟨_, rfl, up_below hb, own_src ho⟩
        · intro ρ w1 hw h0 hc hg hf hd
          have d55 := hd ⟨55, .data⟩ (by simp) rfl _ _ _ rfl rfl rfl
          have d38 := hd ⟨38, .guard⟩ (by simp) rfl _ _ _ rfl rfl rfl
          refine ⟨fun _ => ?_, fun h => by rw [wantedBy_true rfl rfl rfl d38] at h; cases h⟩
          clear d38
          clear h0 hg hd
          have LA := HLA.out.up (HC0.out.trans hw)
          refine gives_call rfl hf Tryd.func22 rfl (by kernel_rfl) (args := #[ρ (.tmp 92)]) (by simp) ((shaSum_any (3 :: (x0 ++ num4 a ++ num4 b')) _ w1 d55 (Bytes.cons (by omega) ((K0.out.append (num4_bytes a)).append (num4_bytes b'))) (by simp [L0.out, num4]) LA).mono ?_)
          rintro e w2 ⟨rfl, hb⟩
          exact ⟨_, rfl, up_below hb, rfl⟩
        · intro ρ w1 hw h0 hc hg hf hd
          have d44 := hd ⟨44, .data⟩ (by simp) rfl _ _ _ rfl rfl rfl
          have d56 := hd ⟨56, .data⟩ (by simp) rfl _ _ _ rfl rfl rfl
          have d38 := hd ⟨38, .guard⟩ (by simp) rfl _ _ _ rfl rfl rfl
          refine ⟨fun _ => ?_, fun h => by rw [wantedBy_true rfl rfl rfl d38] at h; cases h⟩
          clear d38
          clear h0 hg hd
          exact gives_same rfl d44 d56 (hash_size _) ⟨Chg.refl _ _, rfl⟩
        · intro ρ w1 hw h0 hc hg hf hd
          have d38 := hd ⟨38, .data⟩ (by simp) rfl _ _ _ rfl rfl rfl
          have d57 := hd ⟨57, .data⟩ (by simp) rfl _ _ _ rfl rfl rfl
          refine ⟨fun _ => ?_, fun h => by cases h⟩
          clear h0 hg hd
          clear hf
          refine Gives.value (w' := w1) ?_ ⟨Chg.refl _ _, rfl⟩
          go_simp
        · intro ρ w1 hw h0 hc hg hf hd
          have d58 := hd ⟨58, .data⟩ (by simp) rfl _ _ _ rfl rfl rfl
          refine ⟨fun _ => ?_, fun h => by cases h⟩
          clear h0 hg hd
          exact gives_move rfl ⟨Chg.refl _ _, d58⟩
        · intro ρ w1 hw h0 hc hg hf hd
          have d59 := hd ⟨59, .chain⟩ (by simp) rfl _ _ _ rfl rfl rfl
          refine ⟨fun _ => ?_, fun h => by rw [wantedBy_true rfl rfl rfl d59] at h; cases h⟩
          clear d59
          clear h0 hg hd
          have LA := HLA.out.up (HC0.out.trans hw)
          refine gives_call rfl hf Tryd.func30 rfl (by kernel_rfl) (args := #[]) (by simp [hc]) ((awake2_any w1 LA).mono ?_)
          rintro e w2 ⟨rfl, hb⟩
          exact ⟨_, rfl, up_below hb, rfl⟩
        · intro ρ w1 hw h0 hc hg hf hd
          have d59 := hd ⟨59, .data⟩ (by simp) rfl _ _ _ rfl rfl rfl
          have d60 := hd ⟨60, .data⟩ (by simp) rfl _ _ _ rfl rfl rfl
          refine ⟨fun _ => ?_, fun h => by cases h⟩
          clear h0 hg hd
          clear hf
          refine Gives.value (w' := w1) ?_ ⟨Chg.refl _ _, rfl⟩
          go_simp
      · intro vs w2 hw hr
        have h61 := hr 61 _ rfl
        clear hr
        dsimp only [putsL, restL]
        simp only [Act.put, List.setIfInBounds_toArray, List.set_cons_zero, List.set_cons_succ]
        rw [h61]
        have HUP := Lib.hid (HU.out.then hw (fun _ h => h.elim))
        clear hw h61
        go_wp2
        go_ret
        exact ⟨rfl, HUP.out.below (Nat.le_refl _) (fun _ h => h)⟩
end Go.Proofs.YtaahffminoekfaaDoor
