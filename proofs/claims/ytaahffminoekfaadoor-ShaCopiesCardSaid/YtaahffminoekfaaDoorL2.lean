import Derived.Test.YtaahffminoekfaaDoorL1
namespace Go.Proofs.YtaahffminoekfaaDoor
open Go.RowKit
set_option maxRecDepth 100000 in
set_option maxHeartbeats 2000000 in
theorem copies_main (w : World) (a b c : List Int) (va vb vc : Value) (ha : SlB w va a) (hb : SlB w vb b) (hc : SlB w vc c) (hla : Laid w) (ka : Bytes a) (kb : Bytes b) (kc : Bytes c)
    (h1 : ¬ (500 : Int) < a.length) (h2 : ¬ (500 : Int) < b.length) (h3 : ¬ (500 : Int) < c.length) :
    Calls Tryd.prog 5 #[va, vb, vc] w (TruePost w) := by
  have hl2 := hla.lt
  obtain ⟨A, ac, rfl, _⟩ := ha.shape
  obtain ⟨B, bc, rfl, _⟩ := hb.shape
  obtain ⟨C, cc, rfl, _⟩ := hc.shape
  have HA := Lib.hid ha
  have HB := Lib.hid hb
  have HC := Lib.hid hc
  have HLA := Lib.hid hla
  have KA := Lib.hid ka
  have KB := Lib.hid kb
  have KC := Lib.hid kc
  clear ha hb hc hla ka kb kc
  go_enter Tryd.func5, Tryd.ntmps5
  go_wp2_with fail
  -- New
  refine (new_any w HLA.out).mono ?_
  rintro e W1 ⟨rfl, hW1⟩
  have d1 : Dig W1 w.heap.size w.heap.size [] (.slice none 0 0) := by rw [hW1]; exact dig_new w
  have c1 : Chg (fun i => w.heap.size ≤ i) w W1 := by rw [hW1]; exact (Chg.refl _ w).alloc _
  clear hW1
  have D1 := Lib.hid d1
  have C1 := Lib.hid c1
  clear d1 c1
  go_wp2_with fail
  -- Write a
  have hS : ∀ i, i < w.heap.size → ¬ (w.heap.size ≤ i) := fun i h => by omega
  have HSS := Lib.hid hS
  clear hS
  refine (write_any w.heap.size w.heap.size [] a (.slice none 0 0) _ W1 D1.out (HA.out.chg C1.out HSS.out) (fun k hk hn => ⟨by have := HA.out.lt hk hn; omega, by simp [Value.ownBlock]⟩) KA.out (fun j => by simp) (by simp; omega) (HLA.out.chg C1.out (by omega) (by omega)) (by omega)).mono ?_
  rintro e W2 ⟨rv2, rfl, d2, c2, b2⟩
  rw [List.nil_append] at d2
  have c2' : Chg (fun i => w.heap.size ≤ i) w W2 := C1.out.then c2 (fun i hi => .inl (by
    rcases hi with h | h
    · omega
    · simp [Value.ownBlock] at h))
  have D2 := Lib.hid d2
  have C2 := Lib.hid c2'
  clear d2 c2 b2 c2'
  go_wp2_with fail
  -- Copy
  refine (copy_any w.heap.size w.heap.size a rv2 W2 D2.out).mono ?_
  rintro e W3 ⟨q, rv3, rfl, d3, b3⟩
  have c3 : Chg (fun i => w.heap.size ≤ i) w W3 := C2.out.then (Chg.of_below b3 (fun _ => False)) (fun _ h => h.elim)
  have e3 := D2.out.below b3
  have D3 := Lib.hid d3
  have E3 := Lib.hid e3
  have C3 := Lib.hid c3
  have hz3 : w.heap.size < W2.heap.size := D2.out.lt
  have hq3 : W2.heap.size ≤ q := d3.pb
  have R2 : Hid (∀ k, rv2.ownBlock = some k → w.heap.size ≤ k ∧ k < W2.heap.size) := Lib.hid (fun k hk => D2.out.row.lt k hk)
  have R3 : Hid (∀ k, rv3.ownBlock = some k → W2.heap.size ≤ k ∧ k < W3.heap.size) := Lib.hid (fun k hk => D3.out.row.lt k hk)
  clear d3 e3 c3 b3
  go_wp2_with fail
  -- Write b into the first
  refine (write_any w.heap.size w.heap.size a b rv2 _ W3 E3.out (HB.out.chg C3.out HSS.out) (fun k hk hn => ⟨by have := HB.out.lt hk hn; omega, fun he => by have := HB.out.lt hk hn; have := (R2.out k he).1; omega⟩) KB.out KA.out (by omega) (HLA.out.chg C3.out (by omega) (by omega)) (by omega)).mono ?_
  rintro e W4 ⟨rv4, rfl, d4, c4, b4⟩
  have c4' : Chg (fun i => w.heap.size ≤ i) w W4 := C3.out.then c4 (fun i hi => .inl (by
    rcases hi with h | h
    · omega
    · exact (R2.out i h).1))
  have e4 : Dig W4 W2.heap.size q a rv3 := D3.out.chg c4 (by
    rintro (h | h)
    · omega
    · have := (R2.out q h).2; omega) (fun k hk => by
    rintro (h | h)
    · have := (R3.out k hk).1; omega
    · have := (R2.out k h).2; have := (R3.out k hk).1; omega)
  have R4 : Hid (∀ k, rv4.ownBlock = some k → w.heap.size ≤ k ∧ (k < W2.heap.size ∨ W3.heap.size ≤ k)) := Lib.hid (fun k hk => by
    refine ⟨(d4.row.lt k hk).1, ?_⟩
    rcases b4 with h | ⟨g, h, hg⟩
    · exact .inl (R2.out k (by rw [← h, hk])).2
    · rw [hk] at h; injection h with h; exact .inr (by omega))
  have D4 := Lib.hid d4
  have E4 := Lib.hid e4
  have C4 := Lib.hid c4'
  clear d4 e4 c4 c4' b4
  go_wp2_with fail
  -- Write c into the copy
  refine (write_any W2.heap.size q a c rv3 _ W4 E4.out (HC.out.chg C4.out HSS.out) (fun k hk hn => ⟨by have := HC.out.lt hk hn; omega, fun he => by have := HC.out.lt hk hn; have := (R3.out k he).1; omega⟩) KC.out KA.out (by omega) (HLA.out.chg C4.out (by omega) (by omega)) (by omega)).mono ?_
  rintro e W5 ⟨rv5, rfl, d5, c5, b5⟩
  have c5' : Chg (fun i => w.heap.size ≤ i) w W5 := C4.out.then c5 (fun i hi => .inl (by
    rcases hi with h | h
    · omega
    · have := (R3.out i h).1; omega))
  have e5 : Dig W5 w.heap.size w.heap.size (a ++ b) rv4 := D4.out.chg c5 (by
    rintro (h | h)
    · omega
    · have := (R3.out _ h).1; omega) (fun k hk => by
    rintro (h | h)
    · have := R4.out k hk
      have := E4.out.lt
      have hq : q < W3.heap.size := D3.out.lt
      omega
    · have := R4.out k hk; have := R3.out k h; omega)
  have D5 := Lib.hid d5
  have E5 := Lib.hid e5
  have C5 := Lib.hid c5'
  clear d5 e5 c5 c5' b5 
  -- the two lists
  obtain ⟨A1, a1, w1, r1, o1, g1⟩ := app_empty W5 _ a (HA.out.chg C5.out HSS.out) (by omega)
  have k1 : Chg (fun i => w.heap.size ≤ i) w w1 := C5.out.then (Chg.of_below g1 (fun _ => False)) (fun _ h => h.elim)
  have hz5 : w.heap.size ≤ W5.heap.size := C5.out.size
  obtain ⟨A2, a2, w2, r2, o2, g2⟩ := app_more w1 W5.heap.size a.length _ _ a b o1 (HB.out.chg k1 HSS.out) (by omega) g1.size
  have k2 : Chg (fun i => w.heap.size ≤ i) w w2 := k1.then g2 (fun i hi => .inl (by have := (o1.lt i hi).1; omega))
  have g2' : Below W5.heap.size W5 w2 := ((Chg.of_below g1 (fun _ => False)).then g2 (fun i hi => .inr (o1.lt i hi).1)).below_none (fun _ _ h => h)
  obtain ⟨A3, a3, w3, r3, o3, g3⟩ := app_empty w2 _ a (HA.out.chg k2 HSS.out) (by omega)
  have k3 : Chg (fun i => w.heap.size ≤ i) w w3 := k2.then (Chg.of_below g3 (fun _ => False)) (fun _ h => h.elim)
  obtain ⟨A4, a4, w4, r4, o4, g4⟩ := app_more w3 w2.heap.size a.length _ _ a c o3 (HC.out.chg k3 HSS.out) (by omega) g3.size
  have k4 : Chg (fun i => w.heap.size ≤ i) w w4 := k3.then g4 (fun i hi => .inl (by have := (o3.lt i hi).1; have := g2'.size; omega))
  have g24 : Below w2.heap.size w2 w4 := ((Chg.of_below g3 (fun _ => False)).then g4 (fun i hi => .inr (o3.lt i hi).1)).below_none (fun _ _ h => h)
  have o2' : SlB w4 (.slice A2 (a.length + b.length) a2) (a ++ b) := (own_src o2).below g24
  have o4' : SlB w4 (.slice A4 (a.length + c.length) a4) (a ++ c) := own_src o4
  have d6 : Dig w4 W2.heap.size q (a ++ c) rv5 := (D5.out.below g2').below g24
  have e6 : Dig w4 w.heap.size w.heap.size (a ++ b) rv4 := (E5.out.below g2').below g24
  have R1 := Lib.hid r1
  have R2' := Lib.hid r2
  have R3' := Lib.hid r3
  have R4' := Lib.hid r4
  have O2 := Lib.hid o2'
  have O4 := Lib.hid o4'
  have D6 := Lib.hid d6
  have E6 := Lib.hid e6
  have K4 := Lib.hid k4
  clear r1 r2 r3 r4 o1 o2 o3 o4 g1 g2 g3 g4 k1 k2 k3 k4 g2' g24 o2' o4' d6 e6 R2 R3 R4 HA HB HC D1 C1 D2 C2 D3 E3 C3 D4 E4 C4 D5 E5
  go_wp2_with (at_builtin; first
    | refine wpList_run_append rfl (.tmp 41) (.tmp 42) 22 rfl _ _ rfl rfl 22 rfl R1.out ?_
    | refine wpList_run_append rfl (.tmp 43) (.tmp 44) 22 rfl _ _ rfl rfl 22 rfl R2'.out ?_
    | refine wpList_run_append rfl (.tmp 46) (.tmp 47) 22 rfl _ _ rfl rfl 22 rfl R3'.out ?_
    | refine wpList_run_append rfl (.tmp 48) (.tmp 49) 22 rfl _ _ rfl rfl 22 rfl R4'.out ?_)
  have hab : (a ++ b).length ≤ 100000000 := by rw [List.length_append]; omega
  have hac : (a ++ c).length ≤ 100000000 := by rw [List.length_append]; omega
  have HAB := Lib.hid hab
  have HAC := Lib.hid hac
  clear hab hac
  have hz4 := K4.out.size
  refine (sum_any w.heap.size w.heap.size (a ++ b) rv4 w4 E6.out (KA.out.append KB.out) HAB.out (HLA.out.chg K4.out (by omega) (by omega)) (by omega)).mono ?_
  rintro e W6 ⟨rfl, b6⟩
  have k6 := K4.out.then (Chg.of_below b6 (fun _ => False)) (fun _ h => h.elim)
  have D6' := Lib.hid (D6.out.below b6)
  have O2' := Lib.hid (O2.out.below b6)
  have O4' := Lib.hid (O4.out.below b6)
  have K6 := Lib.hid k6
  clear k6 b6 D6 O2 O4 E6
  go_wp2_with fail
  refine (shaSum_any (a ++ b) _ W6 O2'.out (KA.out.append KB.out) HAB.out (HLA.out.chg K6.out (by omega) (by omega))).mono ?_
  rintro e W7 ⟨rfl, b7⟩
  have k7 := K6.out.then (Chg.of_below b7 (fun _ => False)) (fun _ h => h.elim)
  have D7 := Lib.hid (D6'.out.below b7)
  have O7 := Lib.hid (O4'.out.below b7)
  have K7 := Lib.hid k7
  have hz7 := k7.size
  have qg := fun op x y a b W => guard25 op x y a b W
  have q1 := eql25 (shaI (a ++ b)) (shaI (a ++ b)) (hash_size _) (hash_size _)
  rw [show (shaI (a ++ b) == shaI (a ++ b)) = true from by simp] at q1
  clear k7 b7 D6' O2' O4' K6
  go_wp2_with fail
  clear q1
  refine (sum_any W2.heap.size q (a ++ c) rv5 W7 D7.out (KA.out.append KC.out) HAC.out (HLA.out.chg K7.out (by omega) (by omega)) (by omega)).mono ?_
  rintro e W8 ⟨rfl, b8⟩
  have k8 := K7.out.then (Chg.of_below b8 (fun _ => False)) (fun _ h => h.elim)
  have D8 := Lib.hid (D7.out.below b8)
  have O8 := Lib.hid (O7.out.below b8)
  have K8 := Lib.hid k8
  clear k8 b8 D7 O7 K7
  go_wp2_with fail
  refine (shaSum_any (a ++ c) _ W8 O8.out (KA.out.append KC.out) HAC.out (HLA.out.chg K8.out (by omega) (by omega))).mono ?_
  rintro e W9 ⟨rfl, b9⟩
  have k9 := K8.out.then (Chg.of_below b9 (fun _ => False)) (fun _ h => h.elim)
  have D9 := Lib.hid (D8.out.below b9)
  have K9 := Lib.hid k9
  have q2 := eql25 (shaI (a ++ c)) (shaI (a ++ c)) (hash_size _) (hash_size _)
  rw [show (shaI (a ++ c) == shaI (a ++ c)) = true from by simp] at q2
  clear k9 b9 D8 O8 K8
  go_wp2_with fail
  clear q2
  refine (len_any W2.heap.size q (a ++ c) rv5 W9 D9.out).mono ?_
  rintro e W10 ⟨rfl, rfl⟩
  rw [List.length_append, Int.natCast_add]
  go_wp2_with fail
  refine (awake_any W10 (HLA.out.chg K9.out (by omega) (by omega))).mono ?_
  rintro e W11 ⟨rfl, b11⟩
  have K11 := Lib.hid (K9.out.then (Chg.of_below b11 (fun _ => False)) (fun _ h => h.elim))
  clear b11
  go_wp2
  go_ret
  exact ⟨rfl, K11.out.below (Nat.le_refl _) (fun _ h => h)⟩
end Go.Proofs.YtaahffminoekfaaDoor
