/-
  Do both disks tell the same? same, walked.
-/
import Derived.Test.YtkndnlhlglgmfaaE27
namespace Go.Proofs.Ytkndnlhlglgmfaa
open Go.RowKit
def TruePost' (w : World) (e : Ending) (w' : World) : Prop := e = .returned (.bool true) ∧ Below w.heap.size w w'
set_option maxRecDepth 100000 in
set_option maxHeartbeats 4000000 in
theorem same_any (w : World) (p b q : Nat) (sv s1 s2 : Value) (x : Dk) (k : Nat) (hd : DskV w p b sv x k) (hx : RefX w q s1 s2 x) (hw : W16 x k) (hk : k ≤ 90000) : Calls Try.prog 42 #[.pointer (some ⟨p, 0, none⟩), .pointer (some ⟨q, 0, none⟩)] w (TruePost' w) := by
  have HCD := Lib.hid (vcached w p b sv x k hd (by omega) hw.wf.num)
  have HD0 := Lib.hid hd
  have HW := Lib.hid hw
  obtain ⟨n, hn⟩ : ∃ n, x.has.length = n := ⟨_, rfl⟩
  have hnb := hw.wf.num
  have hnum := hw.num
  obtain ⟨L, ar, hF, _, _⟩ := hx
  rw [hn] at hF hnb hnum
  obtain ⟨g1, c1, rfl⟩ := own_some hF.r1 hnum
  obtain ⟨g2, c2, rfl⟩ := own_some hF.r2 hnum
  have HF := Lib.hid hF
  have HN := Lib.hid hn
  clear hd hw hF
  go_enter Try.func42, Try.ntmps42
  go_wp2_with fail
  refine HCD.out.mono ?_
  rintro e w1 hp
  obtain ⟨v, rfl, hrow, hb⟩ := hp
  rw [hn] at hrow
  obtain ⟨A3, c3, rfl⟩ := own_shape hrow
  have hF1 := HF.out.up (up_below hb)
  have q0 := hF1.c0
  have q1 := hF1.c1
  have HF1 := Lib.hid hF1
  have HROW := Lib.hid hrow
  have HB := Lib.hid hb
  have HD1 := Lib.hid (HD0.out.up (up_below hb))
  have hcl := cachedN_len x n
  clear hrow hb hF1 HCD hn
  go_wp2_with fail
  go_loopw [6, 15] (fun c t wr => ∃ i : Nat, i ≤ n ∧ t = .int .i64 i ∧ c = .int .i64 (cachedN x i).length ∧ wr = w1) (fun _ t _ => n - (intOf t).toNat)
  case atStart => exact ⟨0, by omega, rfl, rfl, rfl⟩
  case round =>
    obtain ⟨i, hi, rfl, rfl, rfl⟩ := hrel
    rename World => w1
    by_cases hi2 : (i : Int) < n
    · have z2 := row_at HF1.out.r2 i (by omega)
      have hz := str_none (caF x i)
      obtain ⟨z, he⟩ : ∃ z, strOfNums (caF x i) = z := ⟨_, rfl⟩
      rw [he] at z2 hz
      have hsu := cachedN_succ x i
      cases hca : x.ca (i : Nat) with
      | none =>
        have hz' : (z.toList == ([] : List UInt8)) = true := by rw [hz]; unfold caF; rw [hca]; rfl
        rw [hca, if_neg (by simp)] at hsu
        have HSU := Lib.hid hsu
        clear he hz hsu hca
        go_wp2_with fail
        exact ⟨⟨i + 1, by omega, by go_num, by rw [HSU.out], trivial⟩, by simp [intOf]; omega⟩
      | some xs =>
        have hz' : (z.toList == ([] : List UInt8)) = false := by
          rw [hz, beq_eq_false_iff_ne]
          unfold caF
          rw [hca]
          have h1 := (HW.out.wf.ca _ _ hca).1
          have h2 := HW.out.size
          rintro h3
          simp at h3
          rw [h3] at h1
          simp at h1
          omega
        have hat := cachedN_at x i n (by omega) (by rw [hca]; rfl)
        have hlt := (List.getElem?_eq_some_iff.1 hat).1
        have hcz : (i64s (cachedN x n))[(cachedN x i).length]? = some (.int .i64 i) := by simp [i64s, hat]
        obtain ⟨g, rfl⟩ : ∃ g, A3 = some ⟨g, 0, none⟩ := by
          rcases HROW.out.2 with ⟨_, hz⟩ | ⟨g, cap, cur, he, _⟩
          · omega
          · injection he with e1; exact ⟨g, e1⟩
        have hce := World.ownsRow.cells HROW.out rfl _ _ hcz
        rw [addr_add, Nat.zero_add] at hce
        rw [hca] at hsu
        simp only [Option.isSome_some, if_true] at hsu
        have HSU := Lib.hid hsu
        clear he hz hsu hca hat hcz
        go_wp2_with fail
        exact ⟨⟨i + 1, by omega, by go_num, by rw [HSU.out]; simp, trivial⟩, by simp [intOf]; omega⟩
    · obtain rfl : n = i := by omega
      have HC0 : Hid (w1.drew.cell? ⟨q, 0, none⟩ = some (.slice (some ⟨g1, 0, none⟩) n c1)) := Lib.hid HF1.out.c0
      have HC2 : Hid (w1.drew.cell? ⟨q, 2, none⟩ = some (.int .i64 x.size)) := Lib.hid HF1.out.c2
      have HC4 : Hid (w1.drew.cell? ⟨q, 4, none⟩ = some (.int .i64 x.done)) := Lib.hid HF1.out.c4
      have HC6 : Hid (w1.drew.cell? ⟨q, 6, none⟩ = some (.bool x.down)) := Lib.hid HF1.out.c6
      have HD : Hid (DskV w1.drew p b sv x k) := Lib.hid (HD1.out.up (Chg.refl _ _).drew)
      clear q0 q1
      go_wp2_with fail
      refine MT.region_mono Up [fun v _ => v = .int .i64 ((cachedN x n).length : Int),
          fun v _ => v = .slice A3 (cachedN x n).length c3,
          fun v _ => v = .int .i64 ((cachedN x n).length : Int),
          fun v _ => v = .bool true,
          fun v _ => v = .bool true,
          fun v _ => v = .pointer (some ⟨p, 0, none⟩),
          fun v _ => v = .int .i64 x.done,
          fun v _ => v = .pointer (some ⟨q, 0, none⟩),
          fun v _ => v = .pointer (some ⟨q, 0, none⟩),
          fun v _ => v = .pointer (some ⟨q, 4, none⟩),
          fun v _ => v = .int .i64 x.done,
          fun v _ => v = .bool true,
          fun v _ => v = .bool true,
          fun v _ => v = .bool true,
          fun v _ => v = .pointer (some ⟨p, 0, none⟩),
          fun v _ => v = .bool x.down,
          fun v _ => v = .pointer (some ⟨q, 0, none⟩),
          fun v _ => v = .pointer (some ⟨q, 0, none⟩),
          fun v _ => v = .pointer (some ⟨q, 6, none⟩),
          fun v _ => v = .bool x.down,
          fun v _ => v = .bool true,
          fun v _ => v = .bool true,
          fun v _ => v = .bool true,
          fun v _ => v = .pointer (some ⟨p, 0, none⟩),
          fun v _ => v = .int .i64 (n : Int),
          fun v _ => v = .pointer (some ⟨q, 0, none⟩),
          fun v _ => v = .pointer (some ⟨q, 0, none⟩),
          fun v _ => v = .pointer (some ⟨q, 0, none⟩),
          fun v _ => v = .slice (some ⟨g1, 0, none⟩) n c1,
          fun v _ => v = .int .i64 (n : Int),
          fun v _ => v = .bool true,
          fun v _ => v = .bool true,
          fun v _ => v = .bool true,
          fun v _ => v = .pointer (some ⟨p, 0, none⟩),
          fun v _ => v = .int .i64 (x.size : Int),
          fun v _ => v = .pointer (some ⟨q, 0, none⟩),
          fun v _ => v = .pointer (some ⟨q, 0, none⟩),
          fun v _ => v = .pointer (some ⟨q, 2, none⟩),
          fun v _ => v = .int .i64 (x.size : Int),
          fun v _ => v = .bool true,
          fun v _ => v = .bool true,
          fun v _ => v = .bool true] (by kernel_rfl) (by kernel_rfl) (Chg.refl _) (fun _ _ _ => Chg.trans) (by simp) ?_ ?_ ?_
      · simp only [List.forall_mem_cons]
        exact ⟨fun _ _ _ _ _ h => h, fun _ _ _ _ _ h => h, fun _ _ _ _ _ h => h, fun _ _ _ _ _ h => h, fun _ _ _ _ _ h => h, fun _ _ _ _ _ h => h, fun _ _ _ _ _ h => h, fun _ _ _ _ _ h => h, fun _ _ _ _ _ h => h, fun _ _ _ _ _ h => h, fun _ _ _ _ _ h => h, fun _ _ _ _ _ h => h, fun _ _ _ _ _ h => h, fun _ _ _ _ _ h => h, fun _ _ _ _ _ h => h, fun _ _ _ _ _ h => h, fun _ _ _ _ _ h => h, fun _ _ _ _ _ h => h, fun _ _ _ _ _ h => h, fun _ _ _ _ _ h => h, fun _ _ _ _ _ h => h, fun _ _ _ _ _ h => h, fun _ _ _ _ _ h => h, fun _ _ _ _ _ h => h, fun _ _ _ _ _ h => h, fun _ _ _ _ _ h => h, fun _ _ _ _ _ h => h, fun _ _ _ _ _ h => h, fun _ _ _ _ _ h => h, fun _ _ _ _ _ h => h, fun _ _ _ _ _ h => h, fun _ _ _ _ _ h => h, fun _ _ _ _ _ h => h, fun _ _ _ _ _ h => h, fun _ _ _ _ _ h => h, fun _ _ _ _ _ h => h, fun _ _ _ _ _ h => h, fun _ _ _ _ _ h => h, fun _ _ _ _ _ h => h, fun _ _ _ _ _ h => h, fun _ _ _ _ _ h => h, fun _ _ _ _ _ h => h, by simp⟩
      · refine ⟨?_, ?_, ?_, ?_, ?_, ?_, ?_, ?_, ?_, ?_, ?_, ?_, ?_, ?_, ?_, ?_, ?_, ?_, ?_, ?_, ?_, ?_, ?_, ?_, ?_, ?_, ?_, ?_, ?_, ?_, ?_, ?_, ?_, ?_, ?_, ?_, ?_, ?_, ?_, ?_, ?_, ?_, trivial⟩
        · intro ρ w1 hw h0 hc hg hf hd
          have s6 : ρ (.tmp 6) = .int .i64 ((cachedN x n).length : Int) := h0 6 (by kernel_rfl)
          refine ⟨fun _ => ?_, fun h => by cases h⟩
          clear h0 hg hd
          exact gives_move rfl ⟨Chg.refl _ _, s6⟩
        · intro ρ w1 hw h0 hc hg hf hd
          have s5 : ρ (.tmp 5) = .slice A3 (cachedN x n).length c3 := h0 5 (by kernel_rfl)
          refine ⟨fun _ => ?_, fun h => by cases h⟩
          clear h0 hg hd
          exact gives_move rfl ⟨Chg.refl _ _, s5⟩
        · intro ρ w1 hw h0 hc hg hf hd
          have d1 := hd ⟨1, .data⟩ (by simp) rfl _ _ _ rfl rfl rfl
          refine ⟨fun _ => ?_, fun h => by cases h⟩
          clear h0 hg hd
          clear hf hc
          refine Gives.value (w' := w1) ?_ ⟨Chg.refl _ _, rfl⟩
          go_simp
        · intro ρ w1 hw h0 hc hg hf hd
          have d0 := hd ⟨0, .data⟩ (by simp) rfl _ _ _ rfl rfl rfl
          have d2 := hd ⟨2, .data⟩ (by simp) rfl _ _ _ rfl rfl rfl
          refine ⟨fun _ => ?_, fun h => by cases h⟩
          clear h0 hg hd
          clear hf hc
          refine Gives.value (w' := w1) ?_ ⟨Chg.refl _ _, rfl⟩
          go_simp
        · intro ρ w1 hw h0 hc hg hf hd
          have d3 := hd ⟨3, .data⟩ (by simp) rfl _ _ _ rfl rfl rfl
          refine ⟨fun _ => ?_, fun h => by cases h⟩
          clear h0 hg hd
          exact gives_move rfl ⟨Chg.refl _ _, d3⟩
        · intro ρ w1 hw h0 hc hg hf hd
          have d4 := hd ⟨4, .guard⟩ (by simp) rfl _ _ _ rfl rfl rfl
          have s0 : ρ (.tmp 0) = .pointer (some ⟨p, 0, none⟩) := h0 0 (by kernel_rfl)
          refine ⟨fun _ => ?_, fun h => by rw [wantedBy_true rfl rfl rfl d4] at h; cases h⟩
          clear d4
          clear h0 hg hd
          exact gives_move rfl ⟨Chg.refl _ _, s0⟩
        · intro ρ w1 hw h0 hc hg hf hd
          have d5 := hd ⟨5, .data⟩ (by simp) rfl _ _ _ rfl rfl rfl
          have d4 := hd ⟨4, .chain⟩ (by simp) rfl _ _ _ rfl rfl rfl
          refine ⟨fun _ => ?_, fun h => by rw [wantedBy_true rfl rfl rfl d4] at h; cases h⟩
          clear d4
          clear h0 hg hd
          refine gives_call rfl hf Try.func19 rfl (by kernel_rfl) (args := #[.pointer (some ⟨p, 0, none⟩)]) (by simp [d5]) ((vdone w1 p b sv x k (HD.out.up hw)).mono ?_)
          rintro e w2 ⟨rfl, rfl⟩
          exact ⟨_, rfl, Chg.refl _ _, rfl⟩
        · intro ρ w1 hw h0 hc hg hf hd
          have d4 := hd ⟨4, .guard⟩ (by simp) rfl _ _ _ rfl rfl rfl
          have s1 : ρ (.tmp 1) = .pointer (some ⟨q, 0, none⟩) := h0 1 (by kernel_rfl)
          refine ⟨fun _ => ?_, fun h => by rw [wantedBy_true rfl rfl rfl d4] at h; cases h⟩
          clear d4
          clear h0 hg hd
          exact gives_move rfl ⟨Chg.refl _ _, s1⟩
        · intro ρ w1 hw h0 hc hg hf hd
          have d7 := hd ⟨7, .data⟩ (by simp) rfl _ _ _ rfl rfl rfl
          have d4 := hd ⟨4, .guard⟩ (by simp) rfl _ _ _ rfl rfl rfl
          refine ⟨fun _ => ?_, fun h => by rw [wantedBy_true rfl rfl rfl d4] at h; cases h⟩
          clear d4
          clear h0 hg hd
          clear hf hc
          refine Gives.value (w' := w1) ?_ ⟨Chg.refl _ _, rfl⟩
          go_simp
        · intro ρ w1 hw h0 hc hg hf hd
          have d8 := hd ⟨8, .data⟩ (by simp) rfl _ _ _ rfl rfl rfl
          have d4 := hd ⟨4, .guard⟩ (by simp) rfl _ _ _ rfl rfl rfl
          refine ⟨fun _ => ?_, fun h => by rw [wantedBy_true rfl rfl rfl d4] at h; cases h⟩
          clear d4
          clear h0 hg hd
          clear hf hc
          refine Gives.value (w' := w1) ?_ ⟨Chg.refl _ _, rfl⟩
          go_simp
        · intro ρ w1 hw h0 hc hg hf hd
          have d9 := hd ⟨9, .data⟩ (by simp) rfl _ _ _ rfl rfl rfl
          have d4 := hd ⟨4, .guard⟩ (by simp) rfl _ _ _ rfl rfl rfl
          refine ⟨fun _ => ?_, fun h => by rw [wantedBy_true rfl rfl rfl d4] at h; cases h⟩
          clear d4
          clear h0 hg hd
          clear hc hf
          have c1 := hw.cell HC4.out (fun h => h)
          refine Gives.value (w' := w1) ?_ ⟨Chg.refl _ _, rfl⟩
          go_simp
        · intro ρ w1 hw h0 hc hg hf hd
          have d6 := hd ⟨6, .data⟩ (by simp) rfl _ _ _ rfl rfl rfl
          have d10 := hd ⟨10, .data⟩ (by simp) rfl _ _ _ rfl rfl rfl
          have d4 := hd ⟨4, .guard⟩ (by simp) rfl _ _ _ rfl rfl rfl
          refine ⟨fun _ => ?_, fun h => by rw [wantedBy_true rfl rfl rfl d4] at h; cases h⟩
          clear d4
          clear h0 hg hd
          clear hf hc
          refine Gives.value (w' := w1) ?_ ⟨Chg.refl _ _, rfl⟩
          go_simp
        · intro ρ w1 hw h0 hc hg hf hd
          have d4 := hd ⟨4, .data⟩ (by simp) rfl _ _ _ rfl rfl rfl
          have d11 := hd ⟨11, .data⟩ (by simp) rfl _ _ _ rfl rfl rfl
          refine ⟨fun _ => ?_, fun h => by cases h⟩
          clear h0 hg hd
          refine Gives.value (w' := w1) ?_ ⟨Chg.refl _ _, rfl⟩
          go_simp
        · intro ρ w1 hw h0 hc hg hf hd
          have d12 := hd ⟨12, .data⟩ (by simp) rfl _ _ _ rfl rfl rfl
          refine ⟨fun _ => ?_, fun h => by cases h⟩
          clear h0 hg hd
          exact gives_move rfl ⟨Chg.refl _ _, d12⟩
        · intro ρ w1 hw h0 hc hg hf hd
          have d13 := hd ⟨13, .guard⟩ (by simp) rfl _ _ _ rfl rfl rfl
          have s0 : ρ (.tmp 0) = .pointer (some ⟨p, 0, none⟩) := h0 0 (by kernel_rfl)
          refine ⟨fun _ => ?_, fun h => by rw [wantedBy_true rfl rfl rfl d13] at h; cases h⟩
          clear d13
          clear h0 hg hd
          exact gives_move rfl ⟨Chg.refl _ _, s0⟩
        · intro ρ w1 hw h0 hc hg hf hd
          have d14 := hd ⟨14, .data⟩ (by simp) rfl _ _ _ rfl rfl rfl
          have d13 := hd ⟨13, .chain⟩ (by simp) rfl _ _ _ rfl rfl rfl
          refine ⟨fun _ => ?_, fun h => by rw [wantedBy_true rfl rfl rfl d13] at h; cases h⟩
          clear d13
          clear h0 hg hd
          refine gives_call rfl hf Try.func15 rfl (by kernel_rfl) (args := #[.pointer (some ⟨p, 0, none⟩)]) (by simp [d14]) ((vdown w1 p b sv x k (HD.out.up hw)).mono ?_)
          rintro e w2 ⟨rfl, rfl⟩
          exact ⟨_, rfl, Chg.refl _ _, rfl⟩
        · intro ρ w1 hw h0 hc hg hf hd
          have d13 := hd ⟨13, .guard⟩ (by simp) rfl _ _ _ rfl rfl rfl
          have s1 : ρ (.tmp 1) = .pointer (some ⟨q, 0, none⟩) := h0 1 (by kernel_rfl)
          refine ⟨fun _ => ?_, fun h => by rw [wantedBy_true rfl rfl rfl d13] at h; cases h⟩
          clear d13
          clear h0 hg hd
          exact gives_move rfl ⟨Chg.refl _ _, s1⟩
        · intro ρ w1 hw h0 hc hg hf hd
          have d16 := hd ⟨16, .data⟩ (by simp) rfl _ _ _ rfl rfl rfl
          have d13 := hd ⟨13, .guard⟩ (by simp) rfl _ _ _ rfl rfl rfl
          refine ⟨fun _ => ?_, fun h => by rw [wantedBy_true rfl rfl rfl d13] at h; cases h⟩
          clear d13
          clear h0 hg hd
          clear hf hc
          refine Gives.value (w' := w1) ?_ ⟨Chg.refl _ _, rfl⟩
          go_simp
        · intro ρ w1 hw h0 hc hg hf hd
          have d17 := hd ⟨17, .data⟩ (by simp) rfl _ _ _ rfl rfl rfl
          have d13 := hd ⟨13, .guard⟩ (by simp) rfl _ _ _ rfl rfl rfl
          refine ⟨fun _ => ?_, fun h => by rw [wantedBy_true rfl rfl rfl d13] at h; cases h⟩
          clear d13
          clear h0 hg hd
          clear hf hc
          refine Gives.value (w' := w1) ?_ ⟨Chg.refl _ _, rfl⟩
          go_simp
        · intro ρ w1 hw h0 hc hg hf hd
          have d18 := hd ⟨18, .data⟩ (by simp) rfl _ _ _ rfl rfl rfl
          have d13 := hd ⟨13, .guard⟩ (by simp) rfl _ _ _ rfl rfl rfl
          refine ⟨fun _ => ?_, fun h => by rw [wantedBy_true rfl rfl rfl d13] at h; cases h⟩
          clear d13
          clear h0 hg hd
          clear hc hf
          have c1 := hw.cell HC6.out (fun h => h)
          refine Gives.value (w' := w1) ?_ ⟨Chg.refl _ _, rfl⟩
          go_simp
        · intro ρ w1 hw h0 hc hg hf hd
          have d15 := hd ⟨15, .data⟩ (by simp) rfl _ _ _ rfl rfl rfl
          have d19 := hd ⟨19, .data⟩ (by simp) rfl _ _ _ rfl rfl rfl
          have d13 := hd ⟨13, .guard⟩ (by simp) rfl _ _ _ rfl rfl rfl
          refine ⟨fun _ => ?_, fun h => by rw [wantedBy_true rfl rfl rfl d13] at h; cases h⟩
          clear d13
          clear h0 hg hd
          clear hf hc
          refine Gives.value (w' := w1) ?_ ⟨Chg.refl _ _, rfl⟩
          go_simp
        · intro ρ w1 hw h0 hc hg hf hd
          have d13 := hd ⟨13, .data⟩ (by simp) rfl _ _ _ rfl rfl rfl
          have d20 := hd ⟨20, .data⟩ (by simp) rfl _ _ _ rfl rfl rfl
          refine ⟨fun _ => ?_, fun h => by cases h⟩
          clear h0 hg hd
          refine Gives.value (w' := w1) ?_ ⟨Chg.refl _ _, rfl⟩
          go_simp
        · intro ρ w1 hw h0 hc hg hf hd
          have d21 := hd ⟨21, .data⟩ (by simp) rfl _ _ _ rfl rfl rfl
          refine ⟨fun _ => ?_, fun h => by cases h⟩
          clear h0 hg hd
          exact gives_move rfl ⟨Chg.refl _ _, d21⟩
        · intro ρ w1 hw h0 hc hg hf hd
          have d22 := hd ⟨22, .guard⟩ (by simp) rfl _ _ _ rfl rfl rfl
          have s0 : ρ (.tmp 0) = .pointer (some ⟨p, 0, none⟩) := h0 0 (by kernel_rfl)
          refine ⟨fun _ => ?_, fun h => by rw [wantedBy_true rfl rfl rfl d22] at h; cases h⟩
          clear d22
          clear h0 hg hd
          exact gives_move rfl ⟨Chg.refl _ _, s0⟩
        · intro ρ w1 hw h0 hc hg hf hd
          have d23 := hd ⟨23, .data⟩ (by simp) rfl _ _ _ rfl rfl rfl
          have d22 := hd ⟨22, .chain⟩ (by simp) rfl _ _ _ rfl rfl rfl
          refine ⟨fun _ => ?_, fun h => by rw [wantedBy_true rfl rfl rfl d22] at h; cases h⟩
          clear d22
          clear h0 hg hd
          refine gives_call rfl hf Try.func53 rfl (by kernel_rfl) (args := #[.pointer (some ⟨p, 0, none⟩)]) (by simp [d23]) ((vsectors w1 p b sv x k (HD.out.up hw)).mono ?_)
          rintro e w2 ⟨rfl, rfl⟩
          exact ⟨_, rfl, Chg.refl _ _, by rw [HN.out]⟩
        · intro ρ w1 hw h0 hc hg hf hd
          have d22 := hd ⟨22, .guard⟩ (by simp) rfl _ _ _ rfl rfl rfl
          have s1 : ρ (.tmp 1) = .pointer (some ⟨q, 0, none⟩) := h0 1 (by kernel_rfl)
          refine ⟨fun _ => ?_, fun h => by rw [wantedBy_true rfl rfl rfl d22] at h; cases h⟩
          clear d22
          clear h0 hg hd
          exact gives_move rfl ⟨Chg.refl _ _, s1⟩
        · intro ρ w1 hw h0 hc hg hf hd
          have d25 := hd ⟨25, .data⟩ (by simp) rfl _ _ _ rfl rfl rfl
          have d22 := hd ⟨22, .guard⟩ (by simp) rfl _ _ _ rfl rfl rfl
          refine ⟨fun _ => ?_, fun h => by rw [wantedBy_true rfl rfl rfl d22] at h; cases h⟩
          clear d22
          clear h0 hg hd
          clear hf hc
          refine Gives.value (w' := w1) ?_ ⟨Chg.refl _ _, rfl⟩
          go_simp
        · intro ρ w1 hw h0 hc hg hf hd
          have d26 := hd ⟨26, .data⟩ (by simp) rfl _ _ _ rfl rfl rfl
          have d22 := hd ⟨22, .guard⟩ (by simp) rfl _ _ _ rfl rfl rfl
          refine ⟨fun _ => ?_, fun h => by rw [wantedBy_true rfl rfl rfl d22] at h; cases h⟩
          clear d22
          clear h0 hg hd
          clear hf hc
          refine Gives.value (w' := w1) ?_ ⟨Chg.refl _ _, rfl⟩
          go_simp
        · intro ρ w1 hw h0 hc hg hf hd
          have d27 := hd ⟨27, .data⟩ (by simp) rfl _ _ _ rfl rfl rfl
          have d22 := hd ⟨22, .guard⟩ (by simp) rfl _ _ _ rfl rfl rfl
          refine ⟨fun _ => ?_, fun h => by rw [wantedBy_true rfl rfl rfl d22] at h; cases h⟩
          clear d22
          clear h0 hg hd
          clear hc hf
          have c1 := hw.cell HC0.out (fun h => h)
          refine Gives.value (w' := w1) ?_ ⟨Chg.refl _ _, rfl⟩
          go_simp
        · intro ρ w1 hw h0 hc hg hf hd
          have d28 := hd ⟨28, .data⟩ (by simp) rfl _ _ _ rfl rfl rfl
          have d22 := hd ⟨22, .guard⟩ (by simp) rfl _ _ _ rfl rfl rfl
          refine ⟨fun _ => ?_, fun h => by rw [wantedBy_true rfl rfl rfl d22] at h; cases h⟩
          clear d22
          clear h0 hg hd
          clear hf hc
          refine Gives.value (w' := w1) ?_ ⟨Chg.refl _ _, rfl⟩
          go_simp
        · intro ρ w1 hw h0 hc hg hf hd
          have d24 := hd ⟨24, .data⟩ (by simp) rfl _ _ _ rfl rfl rfl
          have d29 := hd ⟨29, .data⟩ (by simp) rfl _ _ _ rfl rfl rfl
          have d22 := hd ⟨22, .guard⟩ (by simp) rfl _ _ _ rfl rfl rfl
          refine ⟨fun _ => ?_, fun h => by rw [wantedBy_true rfl rfl rfl d22] at h; cases h⟩
          clear d22
          clear h0 hg hd
          clear hf hc
          refine Gives.value (w' := w1) ?_ ⟨Chg.refl _ _, rfl⟩
          go_simp
        · intro ρ w1 hw h0 hc hg hf hd
          have d22 := hd ⟨22, .data⟩ (by simp) rfl _ _ _ rfl rfl rfl
          have d30 := hd ⟨30, .data⟩ (by simp) rfl _ _ _ rfl rfl rfl
          refine ⟨fun _ => ?_, fun h => by cases h⟩
          clear h0 hg hd
          refine Gives.value (w' := w1) ?_ ⟨Chg.refl _ _, rfl⟩
          go_simp
        · intro ρ w1 hw h0 hc hg hf hd
          have d31 := hd ⟨31, .data⟩ (by simp) rfl _ _ _ rfl rfl rfl
          refine ⟨fun _ => ?_, fun h => by cases h⟩
          clear h0 hg hd
          exact gives_move rfl ⟨Chg.refl _ _, d31⟩
        · intro ρ w1 hw h0 hc hg hf hd
          have d32 := hd ⟨32, .guard⟩ (by simp) rfl _ _ _ rfl rfl rfl
          have s0 : ρ (.tmp 0) = .pointer (some ⟨p, 0, none⟩) := h0 0 (by kernel_rfl)
          refine ⟨fun _ => ?_, fun h => by rw [wantedBy_true rfl rfl rfl d32] at h; cases h⟩
          clear d32
          clear h0 hg hd
          exact gives_move rfl ⟨Chg.refl _ _, s0⟩
        · intro ρ w1 hw h0 hc hg hf hd
          have d33 := hd ⟨33, .data⟩ (by simp) rfl _ _ _ rfl rfl rfl
          have d32 := hd ⟨32, .chain⟩ (by simp) rfl _ _ _ rfl rfl rfl
          refine ⟨fun _ => ?_, fun h => by rw [wantedBy_true rfl rfl rfl d32] at h; cases h⟩
          clear d32
          clear h0 hg hd
          refine gives_call rfl hf Try.func58 rfl (by kernel_rfl) (args := #[.pointer (some ⟨p, 0, none⟩)]) (by simp [d33]) ((vsize w1 p b sv x k (HD.out.up hw)).mono ?_)
          rintro e w2 ⟨rfl, rfl⟩
          exact ⟨_, rfl, Chg.refl _ _, rfl⟩
        · intro ρ w1 hw h0 hc hg hf hd
          have d32 := hd ⟨32, .guard⟩ (by simp) rfl _ _ _ rfl rfl rfl
          have s1 : ρ (.tmp 1) = .pointer (some ⟨q, 0, none⟩) := h0 1 (by kernel_rfl)
          refine ⟨fun _ => ?_, fun h => by rw [wantedBy_true rfl rfl rfl d32] at h; cases h⟩
          clear d32
          clear h0 hg hd
          exact gives_move rfl ⟨Chg.refl _ _, s1⟩
        · intro ρ w1 hw h0 hc hg hf hd
          have d35 := hd ⟨35, .data⟩ (by simp) rfl _ _ _ rfl rfl rfl
          have d32 := hd ⟨32, .guard⟩ (by simp) rfl _ _ _ rfl rfl rfl
          refine ⟨fun _ => ?_, fun h => by rw [wantedBy_true rfl rfl rfl d32] at h; cases h⟩
          clear d32
          clear h0 hg hd
          clear hf hc
          refine Gives.value (w' := w1) ?_ ⟨Chg.refl _ _, rfl⟩
          go_simp
        · intro ρ w1 hw h0 hc hg hf hd
          have d36 := hd ⟨36, .data⟩ (by simp) rfl _ _ _ rfl rfl rfl
          have d32 := hd ⟨32, .guard⟩ (by simp) rfl _ _ _ rfl rfl rfl
          refine ⟨fun _ => ?_, fun h => by rw [wantedBy_true rfl rfl rfl d32] at h; cases h⟩
          clear d32
          clear h0 hg hd
          clear hf hc
          refine Gives.value (w' := w1) ?_ ⟨Chg.refl _ _, rfl⟩
          go_simp
        · intro ρ w1 hw h0 hc hg hf hd
          have d37 := hd ⟨37, .data⟩ (by simp) rfl _ _ _ rfl rfl rfl
          have d32 := hd ⟨32, .guard⟩ (by simp) rfl _ _ _ rfl rfl rfl
          refine ⟨fun _ => ?_, fun h => by rw [wantedBy_true rfl rfl rfl d32] at h; cases h⟩
          clear d32
          clear h0 hg hd
          clear hc hf
          have c1 := hw.cell HC2.out (fun h => h)
          refine Gives.value (w' := w1) ?_ ⟨Chg.refl _ _, rfl⟩
          go_simp
        · intro ρ w1 hw h0 hc hg hf hd
          have d34 := hd ⟨34, .data⟩ (by simp) rfl _ _ _ rfl rfl rfl
          have d38 := hd ⟨38, .data⟩ (by simp) rfl _ _ _ rfl rfl rfl
          have d32 := hd ⟨32, .guard⟩ (by simp) rfl _ _ _ rfl rfl rfl
          refine ⟨fun _ => ?_, fun h => by rw [wantedBy_true rfl rfl rfl d32] at h; cases h⟩
          clear d32
          clear h0 hg hd
          clear hf hc
          refine Gives.value (w' := w1) ?_ ⟨Chg.refl _ _, rfl⟩
          go_simp
        · intro ρ w1 hw h0 hc hg hf hd
          have d32 := hd ⟨32, .data⟩ (by simp) rfl _ _ _ rfl rfl rfl
          have d39 := hd ⟨39, .data⟩ (by simp) rfl _ _ _ rfl rfl rfl
          refine ⟨fun _ => ?_, fun h => by cases h⟩
          clear h0 hg hd
          refine Gives.value (w' := w1) ?_ ⟨Chg.refl _ _, rfl⟩
          go_simp
        · intro ρ w1 hw h0 hc hg hf hd
          have d40 := hd ⟨40, .data⟩ (by simp) rfl _ _ _ rfl rfl rfl
          refine ⟨fun _ => ?_, fun h => by cases h⟩
          clear h0 hg hd
          clear hf hc
          refine Gives.value (w' := w1) ?_ ⟨Chg.refl _ _, rfl⟩
          go_simp
      · intro vs w2 hw hr
        have h41 := hr 41 _ rfl
        clear hr
        dsimp only [putsL, restL]
        simp only [Act.put, List.setIfInBounds_toArray, List.set_cons_zero, List.set_cons_succ]
        simp only [Nat.zero_add, Nat.reduceAdd]
        rw [h41]
        have HB2 : Hid (Below w.heap.size w w2) := Lib.hid (((up_below HB.out).then ((Chg.refl (fun _ => False) w1).drew.trans hw) (fun _ h => h.elim)).below (Nat.le_refl _) (fun _ h => h.elim))
        clear hw h41
        go_wp2_with fail
        go_ret
        exact ⟨rfl, HB2.out⟩
end Go.Proofs.Ytkndnlhlglgmfaa
