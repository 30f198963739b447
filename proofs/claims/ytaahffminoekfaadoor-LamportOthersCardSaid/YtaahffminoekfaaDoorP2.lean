/-
  ShaParts, walked.
-/
import Derived.Test.YtaahffminoekfaaDoorP1
namespace Go.Proofs.YtaahffminoekfaaDoor
open Go.RowKit
theorem below_then {a b c : World} (h : Below a.heap.size a b) (k : Below b.heap.size b c) : Below a.heap.size a c := h.trans (k.mono h.size)
theorem Laid.below {w w' : World} (h : Laid w) (hb : Below w.heap.size w w') : Laid w' := h.chg (Chg.of_below hb (fun _ => False)) (fun h => h) (fun h => h)
/-- What holds ahead of each round. -/
structure Part (w wr : World) (l : List Int) (rv all : Value) : Prop where
  dig : Dig wr w.heap.size w.heap.size l rv
  row : wr.ownsRow w.heap.size 5 1 all l.length (u8s l)
  far : ∀ k, all.ownBlock = some k → k ≠ w.heap.size ∧ rv.ownBlock ≠ some k
  chg : Chg (fun i => w.heap.size ≤ i) w wr
set_option maxRecDepth 100000 in
set_option maxHeartbeats 2000000 in
theorem parts_any (w : World) (v : Value) (ls : List (List Int)) (h : SlBB w v ls) (hla : Laid w) :
    Calls Tryd.prog 4 #[v] w (TruePost w) := by
  have hl2 := hla.lt
  have hsh : ∃ A c, v = .slice A ls.length c := by
    rcases h with ⟨rfl, rfl⟩ | ⟨a, c, V, rfl, _⟩
    · exact ⟨_, _, rfl⟩
    · exact ⟨_, _, rfl⟩
  obtain ⟨A, ac, rfl⟩ := hsh
  have HV := Lib.hid h
  have HLA := Lib.hid hla
  clear h hla
  by_cases hg : (40 : Int) < ls.length
  · have HA := Lib.hid (awake_any w HLA.out)
    go_enter Tryd.func4, Tryd.ntmps4
    go_wp2_with (go_at_call 21; refine HA.out.mono ?_; rintro e w' ⟨rfl, hb⟩)
    go_ret
    exact ⟨rfl, hb⟩
  go_enter Tryd.func4, Tryd.ntmps4
  go_wp2_with fail
  refine (new_any w HLA.out).mono ?_
  rintro e W1 ⟨rfl, hW1⟩
  have d1 : Dig W1 w.heap.size w.heap.size [] (.slice none 0 0) := by rw [hW1]; exact dig_new w
  have c1 : Chg (fun i => w.heap.size ≤ i) w W1 := by rw [hW1]; exact (Chg.refl _ w).alloc _
  clear hW1
  have P1 : Hid (Part w W1 [] (.slice none 0 0) (.slice none 0 0)) := Lib.hid ⟨d1, World.ownsRow_nil _ _ _ _, fun k hk => by simp [Value.ownBlock] at hk, c1⟩
  clear d1 c1
  go_wp2_with fail
  go_loopw [4, 18] (fun all i wr => ∃ (k c : Nat) (B : Option Addr) (rv : Value), k ≤ ls.length ∧ i = .int .i64 k ∧ all = .slice B (ls.take k).flatten.length c ∧ (ls.take k).flatten.length ≤ 500 * k ∧ Bytes (ls.take k).flatten ∧ Part w wr (ls.take k).flatten rv all) (fun _ i _ => ls.length - (intOf i).toNat)
  case atStart => exact ⟨0, 0, none, _, by omega, rfl, by simp, by simp, fun j => by simp, P1.out⟩
  case round =>
    clear P1
    rename World => wo
    obtain ⟨k, c, B, rv, hk, rfl, rfl, hfl, hfb, hp⟩ := hrel
    have HP := Lib.hid hp
    have HFB := Lib.hid hfb
    clear hp hfb
    by_cases hkl : (k : Int) < ls.length
    · have hpos : 0 < ls.length := by omega
      obtain ⟨b, off, cap, V, hv, _, _, hbs, hr⟩ := HV.out.form hpos
      obtain ⟨hc, hs, hby⟩ := hr k (by omega)
      have hc' := HP.out.chg.cell hc (by show ¬ w.heap.size ≤ b; omega)
      injection hv with h1 h2 h3
      subst h1 h3
      have hfs := flat_succ ls k (by omega)
      obtain ⟨x, hx⟩ : ∃ x, ls.getD k [] = x := ⟨_, rfl⟩
      obtain ⟨L, hL⟩ : ∃ L, (ls.take k).flatten = L := ⟨_, rfl⟩
      rw [hL] at HP HFB hfs hfl ⊢
      clear hL
      rw [hx] at hs hby hfs
      obtain ⟨X, xc, hvk, _⟩ := hs.shape
      rw [hvk] at hc' hs
      have HSW := Lib.hid hs
      have hs' := hs.chg HP.out.chg (fun i h => by omega)
      have HS := Lib.hid hs'
      have HBY := Lib.hid hby
      have HFS := Lib.hid hfs
      clear h2 hr hc hs hby hfs hx hvk hs'
      by_cases h5 : (500 : Int) < x.length
      · have HA := Lib.hid (awake_any wo (HLA.out.chg HP.out.chg (by omega) (by omega)))
        go_wp2_with (go_at_call 21; refine HA.out.mono ?_; rintro e w' ⟨rfl, hb⟩)
        go_ret
        exact ⟨rfl, (HP.out.chg.then (Chg.of_below hb (fun _ => False)) (fun _ h => h.elim)).below (Nat.le_refl _) (fun _ h => h)⟩
      obtain ⟨M, mc, w1, r1, o1, g1⟩ := app_empty wo _ x HS.out (by omega)
      have R1 := Lib.hid r1
      have O1 := Lib.hid o1
      have G1 := Lib.hid g1
      clear r1 o1 g1
      go_wp2_with (at_builtin; refine wpList_run_append rfl (.tmp 26) (.tmp 27) 22 rfl _ _ rfl rfl 22 rfl R1.out ?_)
      have hwr : w.heap.size < wo.heap.size := HP.out.dig.lt
      have MB : Hid (∀ i, (Value.slice M x.length mc).ownBlock = some i → wo.heap.size ≤ i ∧ i < w1.heap.size) := Lib.hid (fun i hi => O1.out.lt i hi)
      have RB : Hid (∀ i, rv.ownBlock = some i → w.heap.size ≤ i ∧ i < wo.heap.size) := Lib.hid (fun i hi => HP.out.dig.row.lt i hi)
      have AB : Hid (∀ i, (Value.slice B L.length c).ownBlock = some i → w.heap.size ≤ i ∧ i < wo.heap.size) := Lib.hid (fun i hi => HP.out.row.lt i hi)
      have hw1 : wo.heap.size ≤ w1.heap.size := G1.out.size
      have k1 : Chg (fun i => w.heap.size ≤ i) w w1 := HP.out.chg.then (Chg.of_below G1.out (fun _ => False)) (fun _ h => h.elim)
      have K1 := Lib.hid k1
      clear k1
      refine (write_any w.heap.size w.heap.size L x rv _ w1 (HP.out.dig.below G1.out) (own_src O1.out) (fun i hi hn => by
        have := MB.out i hi
        exact ⟨by omega, fun he => by have := RB.out i he; omega⟩) HBY.out HFB.out (by omega) (HLA.out.chg K1.out (by omega) (by omega)) (by omega)).mono ?_
      rintro e W2 ⟨rv2, rfl, d2, c2, b2⟩
      have RB2 : Hid (∀ i, rv2.ownBlock = some i → (rv.ownBlock = some i ∨ w1.heap.size ≤ i) ∧ i < W2.heap.size) := Lib.hid (fun i hi => by
        refine ⟨?_, (d2.row.lt i hi).2⟩
        rcases b2 with h | ⟨g, h, hg⟩
        · exact .inl (by rw [← h, hi])
        · rw [hi] at h; injection h with h; exact .inr (by omega))
      have hw2 : w1.heap.size ≤ W2.heap.size := c2.size
      have o2 : W2.ownsRow wo.heap.size 5 1 (.slice M x.length mc) x.length (u8s x) := own_chg O1.out c2 (fun i hi => by
        have := MB.out i hi
        rintro (h | h)
        · omega
        · have := RB.out i h; omega)
      have a2 : W2.ownsRow w.heap.size 5 1 (.slice B L.length c) L.length (u8s L) := own_chg (own_chg HP.out.row (Chg.of_below G1.out (fun _ => False)) (fun _ _ h => h)) c2 (fun i hi => by
        have := HP.out.far i hi
        rintro (h | h)
        · exact this.1 h
        · exact this.2 h)
      have k2 : Chg (fun i => w.heap.size ≤ i) w W2 := K1.out.then c2 (fun i hi => .inl (by
        rcases hi with h | h
        · omega
        · exact (RB.out i h).1))
      have s2 : SlB W2 (.slice X x.length xc) x := HSW.out.chg k2 (fun i h => by omega)
      have D2 := Lib.hid d2
      have O2 := Lib.hid o2
      have A2 := Lib.hid a2
      have K2 := Lib.hid k2
      have S2 := Lib.hid s2
      clear d2 c2 b2 o2 a2 k2 s2 O1 R1
      go_wp2_with fail
      go_loopw [34] (fun i wi => ∃ (j : Nat) (ys : List Int), j ≤ x.length ∧ i = .int .i64 j ∧ wi.ownsRow wo.heap.size 5 1 (.slice M x.length mc) x.length (u8s ys) ∧ Chg (fun i => (Value.slice M x.length mc).ownBlock = some i) W2 wi) (fun i _ => x.length - (intOf i).toNat)
      case atStart => exact ⟨0, x, by omega, rfl, O2.out, Chg.refl _ _⟩
      case round =>
        obtain ⟨j, ys, hj, rfl, ho, hci⟩ := hrel
        by_cases hjx : (j : Int) < x.length
        · obtain ⟨g, cap, hgf, hgb, hgc, hgm⟩ := own_form ho (by omega)
          injection hgf with h1 _ h2
          subst h1 h2
          obtain ⟨y, hy⟩ : ∃ y, ys.getD j 0 = y := ⟨_, rfl⟩
          have hcell : wr.cell? ⟨g, j, none⟩ = some (.int .u8 y) := by
            have := ho.cells rfl j _ (u8s_at (l := ys) (by have := ho.1; rw [u8s_len] at this; omega))
            rwa [addr_add, Nat.zero_add, hy] at this
          have hfr : wr.frozen? ⟨g, j, none⟩ = false := by
            rcases ho.2 with ⟨h, _⟩ | ⟨g', cap', cur, he, _, hg', _⟩
            · cases h
            · injection he with h _ _
              injection h with h
              injection h with h
              subst h
              exact frozen_of_row wr _ j _ _ hg'
          have HO := Lib.hid ho
          have HC := Lib.hid hci
          clear hy ho hci
          go_wp2
          go_roundw
          case rel =>
            refine ⟨j + 1, _, by omega, by go_num, own_set HO.out j (by omega) _, HC.out.setCell ⟨g, j, none⟩ (.inl rfl) _⟩
          case measure => simp [intOf]; omega
        · have a3 : wr.ownsRow w.heap.size 5 1 (.slice B L.length c) L.length (u8s L) := own_chg A2.out hci (fun i hi h => by have := AB.out i hi; have := MB.out i h; omega)
          have d3 : Dig wr w.heap.size w.heap.size (L ++ x) rv2 := D2.out.chg hci (fun h => by have := MB.out _ h; omega) (fun i hi h => by
            have := MB.out i h
            rcases (RB2.out i hi).1 with h' | h'
            · have := RB.out i h'; omega
            · omega)
          have k3 : Chg (fun i => w.heap.size ≤ i) w wr := K2.out.then hci (fun i hi => .inl (by have := MB.out i hi; omega))
          have s3 : SlB wr (.slice X x.length xc) x := HSW.out.chg k3 (fun i h => by omega)
          have hw3 : W2.heap.size ≤ wr.heap.size := hci.size
          obtain ⟨B4, c4, w4, r4, o4, g4, b4⟩ := app_more2 wr w.heap.size L.length _ _ L x a3 s3 (by omega) (by omega)
          have k4 : Chg (fun i => w.heap.size ≤ i) w w4 := k3.then g4 (fun i hi => .inl (AB.out i hi).1)
          have d4 : Dig w4 w.heap.size w.heap.size (L ++ x) rv2 := d3.chg g4 (fun h => (HP.out.far _ h).1 rfl) (fun i hi h => by
            rcases (RB2.out i hi).1 with h' | h'
            · exact (HP.out.far i h).2 h'
            · have := AB.out i h; omega)
          have far4 : ∀ i, (Value.slice B4 (L.length + x.length) c4).ownBlock = some i → i ≠ w.heap.size ∧ rv2.ownBlock ≠ some i := fun i hi => by
            rcases b4 with h | ⟨g, h, hg⟩
            · rw [hi] at h
              refine ⟨(HP.out.far i h.symm).1, fun h' => ?_⟩
              rcases (RB2.out i h').1 with h'' | h''
              · exact (HP.out.far i h.symm).2 h''
              · have := AB.out i h.symm; omega
            · rw [hi] at h
              injection h with h
              subst h
              exact ⟨by omega, fun h' => by have := (RB2.out i h').2; omega⟩
          have lay4 : Laid w4 := HLA.out.chg k4 (by omega) (by omega)
          have hbx : Bytes (L ++ x) := HFB.out.append HBY.out
          have hlx : (L ++ x).length ≤ 100000000 := by rw [List.length_append]; omega
          have R4 := Lib.hid r4
          have D4 := Lib.hid d4
          have O4 := Lib.hid o4
          have K4 := Lib.hid k4
          have F4 := Lib.hid far4
          have L4 := Lib.hid lay4
          have HBX := Lib.hid hbx
          have HLX := Lib.hid hlx
          have hz4 : w.heap.size ≤ w4.heap.size := k4.size
          clear a3 d3 k3 s3 r4 o4 g4 b4 k4 d4 far4 lay4 hbx hlx ho hci A2 D2 K2 S2 O2 RB2 MB RB AB K1 G1 HP HS
          have qg := fun op x y a b W => guard25 op x y a b W
          have q1 := neq25 (shaI (L ++ x)) (shaI (L ++ x)) (hash_size _) (hash_size _)
          rw [show (!(shaI (L ++ x) == shaI (L ++ x))) = false from by simp] at q1
          go_wp2_with (at_builtin; refine wpList_run_append rfl (.tmp 44) (.tmp 45) 22 rfl _ _ rfl rfl 22 rfl R4.out ?_)
          refine (sum_any w.heap.size w.heap.size (L ++ x) rv2 w4 D4.out HBX.out HLX.out L4.out (by omega)).mono ?_
          rintro e W5 ⟨rfl, b5⟩
          have B5 := Lib.hid b5
          clear b5
          go_wp2_with fail
          refine (shaSum_any (L ++ x) _ W5 ((own_src O4.out).below B5.out) HBX.out HLX.out (L4.out.below B5.out)).mono ?_
          rintro e W6 ⟨rfl, b6⟩
          have B6 := Lib.hid (below_then B5.out b6)
          clear b6 B5
          go_wp2_with fail
          refine (sum_any w.heap.size w.heap.size (L ++ x) rv2 W6 (D4.out.below B6.out) HBX.out HLX.out (L4.out.below B6.out) (by have := B6.out.size; omega)).mono ?_
          rintro e W7 ⟨rfl, b7⟩
          have B7 := Lib.hid (below_then B6.out b7)
          clear b7 B6
          go_wp2_with fail
          refine (shaSum_any (L ++ x) _ W7 ((own_src O4.out).below B7.out) HBX.out HLX.out (L4.out.below B7.out)).mono ?_
          rintro e W8 ⟨rfl, b8⟩
          have B8 := Lib.hid (below_then B7.out b8)
          clear b8 B7
          go_wp2_with fail
          refine (len_any w.heap.size w.heap.size (L ++ x) rv2 W8 (D4.out.below B8.out)).mono ?_
          rintro e W9 ⟨rfl, rfl⟩
          rw [List.length_append, Int.natCast_add]
          go_wp2
          go_roundw
          case rel =>
            refine ⟨k + 1, c4, B4, rv2, by omega, by go_num, ?_, ?_, ?_, ?_⟩
            · rw [HFS.out, List.length_append]
            · rw [HFS.out, List.length_append]; omega
            · rw [HFS.out]; exact HBX.out
            · rw [HFS.out]
              have o9 := own_chg O4.out (Chg.of_below B8.out (fun _ => False)) (fun _ _ h => h)
              rw [← List.length_append] at o9
              exact ⟨D4.out.below B8.out, by simpa [List.length_append] using o9, fun i hi => F4.out i hi, K4.out.then (Chg.of_below B8.out (fun _ => False)) (fun _ h => h.elim)⟩
          case measure => simp [intOf]; omega
    · have HA := Lib.hid (awake_any wo (HLA.out.chg HP.out.chg (by omega) (by omega)))
      go_wp2_with (go_at_call 21; refine HA.out.mono ?_; rintro e w' ⟨rfl, hb⟩)
      go_ret
      exact ⟨rfl, (HP.out.chg.then (Chg.of_below hb (fun _ => False)) (fun _ h => h.elim)).below (Nat.le_refl _) (fun _ h => h)⟩
end Go.Proofs.YtaahffminoekfaaDoor
