/-
  What a head names, as the document says: Parse, walked.
-/
import Derived.Test.YtkndnlhlglgmfaaW32
namespace Go.Proofs.Ytkndnlhlglgmfaa
open Go.RowKit
/-- A number that stands in bytes. -/
def rdN (bs : List Int) (at_ : Nat) : Int := wrap64 (numU ((bs.drop at_).take 8))
theorem rd_be8 (a : Int) (h0 : 0 ≤ a) (h1 : a < 1000) (l r : List Int) (n : Nat) (hl : l.length = n) : rdN (l ++ (be8 a 8 ++ r)) n = a := by
  have h8 : (be8 a 8).length = 8 := be8_len a 8
  unfold rdN
  rw [← hl, List.drop_left, List.take_append_of_le_length (by omega), List.take_of_length_le (by omega), be8_digits a h0 (by omega)]
  unfold wrap64
  omega
theorem flat8_cut (l : List Int) (k : Nat) (hk : k < l.length) : flat8 l = flat8 (l.take k) ++ (be8 (l.getD k 0) 8 ++ flat8 (l.drop (k + 1))) := by
  have e : l = l.take k ++ l.getD k 0 :: l.drop (k + 1) := by
    rw [List.getD_eq_getElem?_getD, List.getElem?_eq_getElem hk]
    simp
  have ha : ∀ a b : List Int, flat8 (a ++ b) = flat8 a ++ flat8 b := fun a b => by simp [flat8]
  rw [← flat8_cons, ← ha, ← e]
theorem rd_head (l : List Int) (size : Nat) (h : 16 + 8 * l.length ≤ size) (hn : l.length < 1000) (hl : ∀ a ∈ l, 0 ≤ a ∧ a < 1000) : rdN (headI l size) 8 = l.length ∧ ∀ k, k < l.length → rdN (headI l size) (16 + 8 * k) = l.getD k 0 := by
  rw [headI_eq l size h]
  refine ⟨rd_be8 _ (by omega) (by omega) _ _ 8 (be8_len _ _), fun k hk => ?_⟩
  have hb := getD_all hl k hk
  rw [flat8_cut l k hk]
  rw [show be8 1 8 ++ (be8 (l.length : Int) 8 ++ (flat8 (l.take k) ++ (be8 (l.getD k 0) 8 ++ flat8 (l.drop (k + 1))) ++ List.replicate (size - (headB l).length) 0)) = (be8 1 8 ++ be8 (l.length : Int) 8 ++ flat8 (l.take k)) ++ (be8 (l.getD k 0) 8 ++ (flat8 (l.drop (k + 1)) ++ List.replicate (size - (headB l).length) 0)) by simp only [List.append_assoc]]
  refine rd_be8 _ hb.1 hb.2 _ _ _ ?_
  rw [List.length_append, List.length_append, be8_len, be8_len, flat8_len, List.length_take]
  omega
theorem eqS_iff {xs ys : List Int} (h : Bytes xs) (k : Bytes ys) : eqS xs ys = true ↔ xs = ys := by
  unfold eqS
  rw [str_eq xs ys h k, beq_iff_eq]
/-- A head that is right, and is not noughts, is that of what it names. -/
theorem parse_true {n size : Nat} {home : Int} (f : Fm n size home) {bs l : List Int} (hb : Bytes bs) (h : parseI bs home (roomI n size home) size = (l, true)) (hz : bs ≠ List.replicate bs.length 0) : bs = headI l size ∧ (l.length : Int) ≤ roomI n size home ∧ ∀ a ∈ l, 0 ≤ a ∧ a < home := by
  have hh := f.hh
  have hpb := parse_bd bs home (roomI n size home) size hh.1 hh.2.2.1
  rw [h] at hpb
  refine ⟨?_, hpb⟩
  unfold parseI at h
  rw [if_neg (fun e => hz (cnt0_all.1 e))] at h
  have h1 := congrArg Prod.fst h
  have h2 := congrArg Prod.snd h
  dsimp only at h1 h2
  rw [Bool.and_eq_true] at h2
  rw [h1] at h2
  exact ((eqS_iff (headI_bytes _ _) hb).1 h2.2).symm
def rdL (bs : List Int) (k : Nat) : List Int := (List.range k).map (fun i => rdN bs (16 + 8 * i))
theorem rdL_len (bs : List Int) (k : Nat) : (rdL bs k).length = k := by simp [rdL]
theorem rdL_succ (bs : List Int) (k : Nat) : rdL bs (k + 1) = rdL bs k ++ [rdN bs (16 + 8 * k)] := by simp [rdL, List.range_succ]
theorem rdL_head (l : List Int) (size : Nat) (h : 16 + 8 * l.length ≤ size) (hn : l.length < 1000) (hl : ∀ a ∈ l, 0 ≤ a ∧ a < 1000) : rdL (headI l size) l.length = l := by
  have h2 := (rd_head l size h hn hl).2
  apply List.ext_getElem (by rw [rdL_len])
  intro k h1 h3
  have := h2 k h3
  rw [List.getD_eq_getElem?_getD, List.getElem?_eq_getElem h3] at this
  simp [rdL]
  exact this
theorem gives_assign {P : Program} {o : Oper} {ρ : Operand → Value} {w : World} {Φ : Value → World → Prop} {x : Operand} (ho : o.op = .assign x) (k : Φ (ρ x) w) : Gives P o ρ w Φ :=
  Gives.value (v := ρ x) (w' := w) (by simp [execOp, ho]) k
theorem gives_make {o : Oper} {ρ : Operand → Value} {w : World} {Φ : Value → World → Prop} {x y : Operand} {n : Nat} (ho : o.op = .makeSlice 28 x y) (hx : ρ x = .int .i64 (n : Int)) (hy : ρ y = .int .i64 (n : Int)) (hn : n ≤ 4096)
    (k : ∀ c w', Up w w' → w'.ownsRow w.heap.size 5 1 (.slice (some ⟨w.heap.size, 0, none⟩) n c) n (u8s (List.replicate n 0)) → Φ (.slice (some ⟨w.heap.size, 0, none⟩) n c) w') : Gives Try.prog o ρ w Φ := by
  obtain ⟨i5, hi, hz, hs, hb⟩ := info_parts (P := Try.prog) (e := 5) (z := .int .u8 0) (size := 1) (bytes := 1) (by kernel_rfl)
  obtain ⟨w', hrun, hr, hg⟩ := run_make_full (P := Try.prog) w w.heap.size 28 5 i5 _ 1 Try.underlying28 hi hz hs .i64 .i64 n (by rw [hb]; omega) (by unfold maxLen; omega) (Nat.le_refl _)
  rw [show (madeCells (Value.int .u8 0).cells (n * 1)).toList = u8s (List.replicate n 0) from by
    show (madeCells #[Value.int .u8 0] (n * 1)).toList = _
    rw [Nat.mul_one, toList_madeCells_one, u8s_rep]] at hr
  refine Gives.value (v := _) (w' := w') ?_ (k n w' ((Chg.of_grownBy hg).mono (fun i _ hi => by cases hi)) hr)
  unfold execOp
  simp only [ho, Sem.run_bind, hx, hy, hrun, Result.andThen_ok, Sem.run_pure]
def ParPost (w : World) (bs : List Int) (e : Ending) (w' : World) : Prop := ∃ (u : Value) (at_ : List Int) (ok : Bool), e = .returned (.tuple #[u, .bool ok]) ∧ SlI w' u at_ ∧ ok = (parseI bs 4 4 64).2 ∧ (ok = true → at_ = (parseI bs 4 4 64).1) ∧ (∀ g, Value.blk u = some g → 0 < at_.length → w.heap.size ≤ g) ∧ Below w.heap.size w w'
set_option maxRecDepth 100000 in
set_option maxHeartbeats 4000000 in
theorem parse46_any (w : World) (v : Value) (bs : List Int) (h : SlB w v bs) (hby : Bytes bs) (hl : bs.length = 64) : Calls Try.prog 46 #[v, .int .i64 9] w (ParPost w bs) := by
  obtain ⟨A, c, rfl, hc1, hc2⟩ := h.shape
  rw [hl] at h hc1 ⊢
  have HV : Hid (SlB w.drew (.slice A 64 c) bs) := Lib.hid (Src.chg h (Chg.refl (fun _ => False) w).drew (fun _ _ _ h => h) (by decide))
  have HBY := Lib.hid hby
  have HL := Lib.hid hl
  have HSZ : Hid (w.heap.size ≤ w.drew.heap.size) := Lib.hid (Nat.le_refl _)
  have hfm : Fm 9 64 4 := ⟨by omega, by omega, by omega, by omega, by decide⟩
  have HPT : Hid (∀ l, bs ≠ List.replicate 64 0 → parseI bs 4 4 64 = (l, true) → bs = headI l 64 ∧ l.length ≤ 4 ∧ ∀ a ∈ l, 0 ≤ a ∧ a < 4) := Lib.hid (fun l hz hp => by
    have := parse_true hfm hby (l := l) (by rw [show roomI 9 64 4 = 4 by decide]; exact hp) (by rw [hl]; exact hz)
    rw [show roomI 9 64 4 = 4 by decide] at this
    exact ⟨this.1, by omega, this.2.2⟩)
  have HPH : Hid (∀ l : List Int, l.length ≤ 4 → (∀ a ∈ l, 0 ≤ a ∧ a < 4) → parseI (headI l 64) 4 4 64 = (l, true)) := Lib.hid (fun l h1 h2 => by
    have := parse_headI hfm l h2 (by rw [show roomI 9 64 4 = 4 by decide]; omega)
    rw [show roomI 9 64 4 = 4 by decide] at this
    exact this)
  clear h hby hl hfm
  go_enter Try.func46, Try.ntmps46
  go_wp2_with fail
  refine MT.region_mono Up [fun v _ => v = .slice A 64 c,
      fun v _ => v = .string (strOfNums (bs)),
      fun v _ => v = .slice A 64 c,
      fun v _ => v = .int .i64 64,
      RwN w.heap.size (List.replicate 64 0),
      fun v _ => v = .string (strOfNums (List.replicate 64 0)),
      fun v _ => v = .bool (bs == List.replicate 64 0)] (by kernel_rfl) (by kernel_rfl) (Chg.refl _) (fun _ _ _ => Chg.trans) (by simp) ?_ ?_ ?_
  · simp only [List.forall_mem_cons]
    exact ⟨fun _ _ _ _ _ h => h, fun _ _ _ _ _ h => h, fun _ _ _ _ _ h => h, fun _ _ _ _ _ h => h, fun _ _ _ _ hu h => RwN.up h hu, fun _ _ _ _ _ h => h, fun _ _ _ _ _ h => h, by simp⟩
  · refine ⟨?_, ?_, ?_, ?_, ?_, ?_, ?_, trivial⟩
    · intro ρ w1 hw h0 hc hg hf hd
      have s0 : ρ (.tmp 0) = .slice A 64 c := h0 0 (by kernel_rfl)
      refine ⟨fun _ => ?_, fun h => by cases h⟩
      clear h0 hg hd
      exact gives_move rfl ⟨Chg.refl _ _, s0⟩
    · intro ρ w1 hw h0 hc hg hf hd
      have d0 := hd ⟨0, .data⟩ (by simp) rfl _ _ _ rfl rfl rfl
      refine ⟨fun _ => ?_, fun h => by cases h⟩
      clear h0 hg hd
      exact gives_string rfl (by rw [d0]; exact Src.chg HV.out hw (fun _ _ _ h => h) (by decide)) ⟨Chg.refl _ _, rfl⟩
    · intro ρ w1 hw h0 hc hg hf hd
      have s0 : ρ (.tmp 0) = .slice A 64 c := h0 0 (by kernel_rfl)
      refine ⟨fun _ => ?_, fun h => by cases h⟩
      clear h0 hg hd
      exact gives_move rfl ⟨Chg.refl _ _, s0⟩
    · intro ρ w1 hw h0 hc hg hf hd
      have d2 := hd ⟨2, .data⟩ (by simp) rfl _ _ _ rfl rfl rfl
      refine ⟨fun _ => ?_, fun h => by cases h⟩
      clear h0 hg hd
      clear hf hc
      refine Gives.value (w' := w1) ?_ ⟨Chg.refl _ _, rfl⟩
      go_simp
    · intro ρ w1 hw h0 hc hg hf hd
      have d3 := hd ⟨3, .data⟩ (by simp) rfl _ _ _ rfl rfl rfl
      refine ⟨fun _ => ?_, fun h => by cases h⟩
      clear h0 hg hd
      exact gives_make (n := 64) rfl d3 d3 (by omega) (fun cc w2 hu hr => ⟨hu, some ⟨w1.heap.size, 0, none⟩, cc, rfl, own_base hr (Nat.le_trans HSZ.out hw.size)⟩)
    · intro ρ w1 hw h0 hc hg hf hd
      have d4 := hd ⟨4, .data⟩ (by simp) rfl _ _ _ rfl rfl rfl
      refine ⟨fun _ => ?_, fun h => by cases h⟩
      clear h0 hg hd
      obtain ⟨A4, c4, e4, h4⟩ := d4
      exact gives_string rfl (by rw [e4]; exact slb_of h4) ⟨Chg.refl _ _, rfl⟩
    · intro ρ w1 hw h0 hc hg hf hd
      have d1 := hd ⟨1, .data⟩ (by simp) rfl _ _ _ rfl rfl rfl
      have d5 := hd ⟨5, .data⟩ (by simp) rfl _ _ _ rfl rfl rfl
      refine ⟨fun _ => ?_, fun h => by cases h⟩
      clear h0 hg hd
      exact gives_streq rfl d1 d5 HBY.out (bytes_zero 64) ⟨Chg.refl _ _, rfl⟩
  · intro vs w2 hw hr
    have h6 := hr 6 _ rfl
    clear hr
    dsimp only [putsL, restL]
    simp only [Act.put, List.setIfInBounds_toArray, List.set_cons_zero, List.set_cons_succ]
    rw [h6]
    have HU2 : Hid (Up w w2) := Lib.hid ((Chg.refl (fun _ => False) w).drew.trans hw)
    have HV2 : Hid (SlB w2 (.slice A 64 c) bs) := Lib.hid (Src.chg HV.out hw (fun _ _ _ h => h) (by decide))
    clear hw h6 HV HSZ
    by_cases hz : bs = List.replicate 64 0
    · rw [beq_iff_eq.2 hz]
      have HPZ : Hid (parseI bs 4 4 64 = ([], true)) := Lib.hid (by rw [hz]; exact parse_zero 64 4 4 64)
      clear hz
      go_wp2_with fail
      go_ret2
      exact ⟨.slice none 0 0, [], true, rfl, .inl ⟨rfl, rfl, rfl⟩, by rw [HPZ.out], fun _ => by rw [HPZ.out], fun g h1 h2 => (by simp at h2), HU2.out.below (Nat.le_refl _) (fun _ h => h.elim)⟩
    have hzb : (bs == List.replicate 64 0) = false := by rw [beq_eq_false_iff_ne]; exact hz
    rw [hzb]
    have HPT2 : Hid (∀ l, parseI bs 4 4 64 = (l, true) → (rdN bs 8 = l.length ∧ ∀ k, k < l.length → rdN bs (16 + 8 * k) = l.getD k 0) ∧ l.length ≤ 4 ∧ (∀ a ∈ l, 0 ≤ a ∧ a < 4) ∧ bs = headI l 64 ∧ rdL bs l.length = l) := Lib.hid (fun l hp => by
      obtain ⟨h1, h2, h3⟩ := HPT.out l hz hp
      refine ⟨?_, h2, h3, h1, ?_⟩
      · rw [h1]; exact rd_head l 64 (by omega) (by omega) (fun a ha => by have := h3 a ha; omega)
      · rw [h1]; exact rdL_head l 64 (by omega) (by omega) (fun a ha => by have := h3 a ha; omega))
    have HRD : Hid (∀ (k : Nat) w3, k + 8 ≤ 64 → Up w2 w3 → Calls Try.prog 73 #[.slice A 64 c, .int .i64 k, .int .i64 8] w3 (fun e w' => e = .returned (.tuple #[.int .i64 (rdN bs k), .bool true]) ∧ w' = w3)) := Lib.hid (fun k w3 hk hu => by
      have := read73_any w3 (.slice A 64 c) bs (Src.chg HV2.out hu (fun _ _ _ h => h) (by decide)) HBY.out k (by rw [HL.out]; exact hk) (by rw [HL.out]; omega)
      exact this)
    have HRR : Hid (∀ w3, Calls Try.prog 30 #[.int .i64 9, .int .i64 64] w3 (fun e w' => e = .returned (.int .i64 4) ∧ w' = w3)) := Lib.hid (fun w3 => by
      have := rroom_any w3 9 64 ⟨by omega, by omega⟩ ⟨by omega, by omega⟩
      rw [show roomI 9 64 (((9 : Nat) : Int) / 2) = 4 by decide] at this
      exact this)
    have HRH : Hid (∀ w3, Calls Try.prog 27 #[.int .i64 9] w3 (fun e w' => e = .returned (.int .i64 4) ∧ w' = w3)) := Lib.hid (fun w3 => by
      have := rhome_any w3 9 ⟨by omega, by omega⟩
      rw [show ((9 : Nat) : Int) / 2 = 4 by decide] at this
      exact this)
    have HRD0 := Lib.hid (HRD.out 8 w2 (by omega) (Chg.refl _ _))
    obtain ⟨n, hn⟩ : ∃ n, rdN bs 8 = n := ⟨_, rfl⟩
    rw [hn] at HRD0
    have HN := Lib.hid hn
    clear hz hzb hn HPT
    go_wp2_with fail
    refine HRD0.out.mono ?_
    rintro e w3 ⟨rfl, rfl⟩
    rename World => w2
    clear HRD0
    by_cases hneg : n < 0
    · have KEY : ∀ l, parseI bs 4 4 64 = (l, true) → False := fun l hp => by
        have := HPT2.out l hp
        rw [HN.out] at this
        omega
      have hpf : (parseI bs 4 4 64).2 = false := by
        cases hp : (parseI bs 4 4 64).2 with
        | false => rfl
        | true => exact absurd (KEY _ (Prod.ext rfl hp)) (fun h => h)
      have HPF := Lib.hid hpf
      clear KEY hpf
      go_wp2_with fail
      go_ret2
      exact ⟨.slice none 0 0, [], false, rfl, .inl ⟨rfl, rfl, rfl⟩, by rw [HPF.out], fun h => (by cases h), fun g h1 h2 => (by simp at h2), HU2.out.below (Nat.le_refl _) (fun _ h => h.elim)⟩
    by_cases hov : n > 4
    · have KEY : ∀ l, parseI bs 4 4 64 = (l, true) → False := fun l hp => by
        have := HPT2.out l hp
        rw [HN.out] at this
        omega
      have hpf : (parseI bs 4 4 64).2 = false := by
        cases hp : (parseI bs 4 4 64).2 with
        | false => rfl
        | true => exact absurd (KEY _ (Prod.ext rfl hp)) (fun h => h)
      have HPF := Lib.hid hpf
      clear KEY hpf
      go_wp2_with fail
      refine (HRR.out _).mono ?_
      rintro e w3 ⟨rfl, rfl⟩
      go_wp2_with fail
      go_ret2
      exact ⟨.slice none 0 0, [], false, rfl, .inl ⟨rfl, rfl, rfl⟩, by rw [HPF.out], fun h => (by cases h), fun g h1 h2 => (by simp at h2), HU2.out.below (Nat.le_refl _) (fun _ h => h.elim)⟩
    obtain ⟨N, hN⟩ : ∃ N : Nat, n = N := ⟨n.toNat, by omega⟩
    subst hN
    have hN4 : N ≤ 4 := by omega
    go_wp2_with fail
    refine (HRR.out _).mono ?_
    rintro e w3 ⟨rfl, rfl⟩
    rename World => w2
    clear HRR
    go_wp2_with fail
    go_loopw [8, 9] (fun o i wr => ∃ (k cO : Nat) (BO : Option Addr), k ≤ N ∧ i = .int .i64 k ∧ o = .slice BO k cO ∧ wr.ownsRow w2.heap.size 3 1 (.slice BO k cO) k (i64s (rdL bs k)) ∧ (∀ j, j < k → 0 ≤ rdN bs (16 + 8 * j) ∧ rdN bs (16 + 8 * j) < 4) ∧ Up w2 wr) (fun _ i _ => N - (intOf i).toNat)
    case atStart => exact ⟨0, 0, none, by omega, rfl, rfl, World.ownsRow_nil _ _ _ _, fun j hj => by omega, Chg.refl _ _⟩
    case round =>
      rename World => wr
      obtain ⟨k, cO, BO, hk, rfl, rfl, hrow, hin, hch⟩ := hrel
      by_cases hk2 : (k : Int) < N
      · have HRDK := Lib.hid (HRD.out (16 + 8 * k) wr (by omega) hch)
        have hcast : ((16 + 8 * k : Nat) : Int) = 16 + 8 * (k : Int) := by omega
        rw [hcast] at HRDK
        have hsu := rdL_succ bs k
        obtain ⟨a, ha⟩ : ∃ a, rdN bs (16 + 8 * k) = a := ⟨_, rfl⟩
        rw [ha] at HRDK hsu
        have HA := Lib.hid ha
        have HROW := Lib.hid hrow
        have HIN := Lib.hid hin
        have HCH := Lib.hid hch
        have HSU := Lib.hid hsu
        clear hcast ha hrow hin hch hsu
        go_wp2_with fail
        refine HRDK.out.mono ?_
        rintro e w4 ⟨rfl, rfl⟩
        rename World => wr
        clear HRDK
        by_cases han : a < 0
        · have KEY : ∀ l, parseI bs 4 4 64 = (l, true) → False := fun l hp => by
            obtain ⟨⟨h1, h2⟩, h3, h4, _⟩ := HPT2.out l hp
            rw [HN.out] at h1
            have h5 := h2 k (by omega)
            rw [HA.out] at h5
            have := getD_all h4 k (by omega)
            omega
          have hpf : (parseI bs 4 4 64).2 = false := by
            cases hp : (parseI bs 4 4 64).2 with
            | false => rfl
            | true => exact absurd (KEY _ (Prod.ext rfl hp)) (fun h => h)
          have HPF := Lib.hid hpf
          clear KEY hpf
          go_wp2_with fail
          go_ret2
          exact ⟨.slice none 0 0, [], false, rfl, .inl ⟨rfl, rfl, rfl⟩, by rw [HPF.out], fun h => (by cases h), fun g h1 h2 => (by simp at h2), (HU2.out.trans HCH.out).below (Nat.le_refl _) (fun _ h => h.elim)⟩
        by_cases hao : a ≥ 4
        · have KEY : ∀ l, parseI bs 4 4 64 = (l, true) → False := fun l hp => by
            obtain ⟨⟨h1, h2⟩, h3, h4, _⟩ := HPT2.out l hp
            rw [HN.out] at h1
            have h5 := h2 k (by omega)
            rw [HA.out] at h5
            have := getD_all h4 k (by omega)
            omega
          have hpf : (parseI bs 4 4 64).2 = false := by
            cases hp : (parseI bs 4 4 64).2 with
            | false => rfl
            | true => exact absurd (KEY _ (Prod.ext rfl hp)) (fun h => h)
          have HPF := Lib.hid hpf
          clear KEY hpf
          go_wp2_with fail
          refine (HRH.out _).mono ?_
          rintro e w4 ⟨rfl, rfl⟩
          go_wp2_with fail
          go_ret2
          exact ⟨.slice none 0 0, [], false, rfl, .inl ⟨rfl, rfl, rfl⟩, by rw [HPF.out], fun h => (by cases h), fun g h1 h2 => (by simp at h2), (HU2.out.trans HCH.out).below (Nat.le_refl _) (fun _ h => h.elim)⟩
        have hsz : w2.heap.size ≤ wr.heap.size := HCH.out.size
        have hrk : (rdL bs k).length = k := rdL_len bs k
        obtain ⟨B3, c3, w', hrun, ho, hg, hb⟩ := push_run (P := Try.prog) wr 29 29 w2.heap.size 3 (.int .i64 0) 8 Try.underlying29 (by kernel_rfl) rfl _ _ _ HROW.out [.int .i64 a] 1 rfl (by simp [Value.oneCell']) (by omega) (by omega) hsz
        rw [show i64s (rdL bs k) ++ [Value.int .i64 a] = i64s (rdL bs (k + 1)) by rw [HSU.out]; simp [i64s]] at ho
        have HRUN := Lib.hid hrun
        have HO := Lib.hid ho
        have HC : Hid (Up w2 w') := Lib.hid (HCH.out.then hg (fun i hi => .inr (own_ge HROW.out i hi)))
        have HNX : Hid (∀ j, j < k + 1 → 0 ≤ rdN bs (16 + 8 * j) ∧ rdN bs (16 + 8 * j) < 4) := Lib.hid (fun j hj => by
          by_cases e : j = k
          · rw [e, HA.out]; omega
          · exact HIN.out j (by omega))
        clear hsz hrk hrun ho hg hb
        go_wp2_with fail
        refine (HRH.out _).mono ?_
        rintro e w4 ⟨rfl, rfl⟩
        rename World => wr
        go_wp2_with (at_builtin; refine wpList_run_append rfl (.tmp 55) (.tmp 57) 29 rfl _ _ rfl rfl 29 rfl HRUN.out ?_)
        exact ⟨⟨k + 1, c3, B3, by omega, by go_num, rfl, HO.out, HNX.out, HC.out⟩, by simp [intOf]; omega⟩
      · obtain rfl : k = N := by omega
        have hzl : (rdL bs k).length = k := rdL_len bs k
        obtain ⟨zs, hzs⟩ : ∃ zs, rdL bs k = zs := ⟨_, rfl⟩
        rw [hzs] at hrow hzl
        have hzin : ∀ a ∈ zs, 0 ≤ a ∧ a < 4 := fun a ha => by
          rw [← hzs] at ha
          obtain ⟨j, hj, rfl⟩ := List.mem_map.1 ha
          exact hin j (List.mem_range.1 hj)
        have hsl : SlI wr (.slice BO k cO) zs := by
          rcases hrow.2 with ⟨hv, h0⟩ | ⟨g, cap, cur, hv, _, hg, h1, h2, _⟩
          · have : zs = [] := List.eq_nil_of_length_eq_zero (by omega)
            exact .inl ⟨hv, by rw [this]; rfl, by rw [this]; rfl⟩
          · obtain ⟨e1, _, e3⟩ := Value.slice.inj hv
            subst e1 e3
            exact .inr ⟨⟨g, 0, none⟩, cO, by rw [hzl], by rw [i64s_len]; omega, by rw [hzl]; exact h1, by simpa [maxLen] using h2, fun j u hu => World.ownsRow.cells hrow rfl j u hu⟩
        have HHD : Hid (∀ w1, Up wr.drew w1 → Calls Try.prog 47 #[.int .i64 64, .slice BO k cO] w1 (fun e w' => ∃ r, e = .returned r ∧ w'.ownsRow w1.heap.size 5 1 r 64 (u8s (headI zs 64)) ∧ Below w1.heap.size w1 w')) := Lib.hid (fun w1 hu => by
          refine head47_any w1 64 (.slice BO k cO) zs (Src.chg (Src.chg hsl (Chg.refl (fun _ => False) wr).drew (fun _ _ _ h => h) (by decide)) hu (fun _ _ _ h => h) (by decide)) (fun j => ?_) (by omega) (by omega) (by omega)
          by_cases hj : j < zs.length
          · have := getD_all hzin j hj; unfold I64; omega
          · rw [List.getD_eq_getElem?_getD, List.getElem?_eq_none (by omega)]; simp [I64])
        have HSL : Hid (∀ w1, Up wr w1 → SlI w1 (.slice BO k cO) zs) := Lib.hid (fun w1 hu => Src.chg hsl hu (fun _ _ _ h => h) (by decide))
        have HBLK : Hid (∀ g, Value.blk (.slice BO k cO) = some g → 0 < zs.length → w.heap.size ≤ g) := Lib.hid (fun g h1 h2 => by
          have h3 := own_ge hrow g (by
            rcases hrow.2 with ⟨_, h0⟩ | ⟨g', cap, cur, hv, _⟩
            · omega
            · rw [(Value.slice.inj hv).1] at h1 ⊢
              obtain rfl : g' = g := by simpa [Value.blk] using h1
              rfl)
          have := HU2.out.size
          omega)
        have HPL : Hid ((headI zs 64).length = 64) := Lib.hid (pad_len _ _)
        have HUW := Lib.hid (HU2.out.trans hch)
        have HV : Hid (SlB wr.drew (.slice A 64 c) bs) := Lib.hid (Src.chg HV2.out hch.drew (fun _ _ _ h => h) (by decide))
        have HSZ : Hid (w.heap.size ≤ wr.drew.heap.size) := Lib.hid (HU2.out.trans hch).size
        have HFIN : Hid ((headI zs 64 == bs) = (parseI bs 4 4 64).2 ∧ ((headI zs 64 == bs) = true → zs = (parseI bs 4 4 64).1)) := Lib.hid (by
          cases hp : (parseI bs 4 4 64).2 with
          | true =>
            have hp2 : parseI bs 4 4 64 = ((parseI bs 4 4 64).1, true) := Prod.ext rfl hp
            obtain ⟨⟨h1, _⟩, _, _, h5, h6⟩ := HPT2.out _ hp2
            rw [HN.out] at h1
            have hk1 : (parseI bs 4 4 64).1.length = k := by omega
            rw [hk1, hzs] at h6
            rw [← h6] at h5
            exact ⟨by rw [beq_iff_eq]; exact h5.symm, fun _ => h6⟩
          | false =>
            have hne : headI zs 64 ≠ bs := fun e => by
              have := HPH.out zs (by omega) hzin
              rw [e, Prod.ext_iff] at this
              rw [this.2] at hp
              cases hp
            have hf : (headI zs 64 == bs) = false := by rw [beq_eq_false_iff_ne]; exact hne
            rw [hf]
            exact ⟨rfl, fun h => (by cases h)⟩)
        clear hzl hzs hrow hin hch hzin hsl HU2 HV2 HRD HRH HPT2 HPH HN hk hk2 hN4 hov hneg
        go_wp2_with fail
        refine MT.region_mono Up [fun v _ => v = .slice BO k cO,
            fun v _ => v = .slice A 64 c,
            fun v _ => v = .int .i64 64,
            fun v _ => v = .slice BO k cO,
            RwN w.heap.size (headI zs 64),
            fun v _ => v = .string (strOfNums (headI zs 64)),
            fun v _ => v = .slice A 64 c,
            fun v _ => v = .string (strOfNums (bs)),
            fun v _ => v = .bool (headI zs 64 == bs),
            fun v _ => v = .slice BO k cO,
            fun v _ => v = .bool (headI zs 64 == bs)] (by kernel_rfl) (by kernel_rfl) (Chg.refl _) (fun _ _ _ => Chg.trans) (by simp) ?_ ?_ ?_
        · simp only [List.forall_mem_cons]
          exact ⟨fun _ _ _ _ _ h => h, fun _ _ _ _ _ h => h, fun _ _ _ _ _ h => h, fun _ _ _ _ _ h => h, fun _ _ _ _ hu h => RwN.up h hu, fun _ _ _ _ _ h => h, fun _ _ _ _ _ h => h, fun _ _ _ _ _ h => h, fun _ _ _ _ _ h => h, fun _ _ _ _ _ h => h, fun _ _ _ _ _ h => h, by simp⟩
        · refine ⟨?_, ?_, ?_, ?_, ?_, ?_, ?_, ?_, ?_, ?_, ?_, trivial⟩
          · intro ρ w1 hw h0 hc hg hf hd
            have s8 : ρ (.tmp 8) = .slice BO k cO := h0 8 (by kernel_rfl)
            refine ⟨fun _ => ?_, fun h => by cases h⟩
            clear h0 hg hd
            exact gives_move rfl ⟨Chg.refl _ _, s8⟩
          · intro ρ w1 hw h0 hc hg hf hd
            have s0 : ρ (.tmp 0) = .slice A 64 c := h0 0 (by kernel_rfl)
            refine ⟨fun _ => ?_, fun h => by cases h⟩
            clear h0 hg hd
            exact gives_move rfl ⟨Chg.refl _ _, s0⟩
          · intro ρ w1 hw h0 hc hg hf hd
            have d1 := hd ⟨1, .data⟩ (by simp) rfl _ _ _ rfl rfl rfl
            refine ⟨fun _ => ?_, fun h => by cases h⟩
            clear h0 hg hd
            clear hf hc
            refine Gives.value (w' := w1) ?_ ⟨Chg.refl _ _, rfl⟩
            go_simp
          · intro ρ w1 hw h0 hc hg hf hd
            have s8 : ρ (.tmp 8) = .slice BO k cO := h0 8 (by kernel_rfl)
            refine ⟨fun _ => ?_, fun h => by cases h⟩
            clear h0 hg hd
            exact gives_move rfl ⟨Chg.refl _ _, s8⟩
          · intro ρ w1 hw h0 hc hg hf hd
            have d2 := hd ⟨2, .data⟩ (by simp) rfl _ _ _ rfl rfl rfl
            have d3 := hd ⟨3, .data⟩ (by simp) rfl _ _ _ rfl rfl rfl
            refine ⟨fun _ => ?_, fun h => by cases h⟩
            clear h0 hg hd
            refine gives_call rfl hf Try.func47 rfl (by kernel_rfl) (args := #[.int .i64 64, .slice BO k cO]) (by simp [d2, d3]) ((HHD.out w1 hw).mono ?_)
            rintro e w2 ⟨r, rfl, hr, hb⟩
            obtain ⟨A5, c5, rfl⟩ := own_shape hr
            exact ⟨_, rfl, up_below hb, A5, c5, by rw [HPL.out], by rw [HPL.out]; exact own_base hr (Nat.le_trans HSZ.out hw.size)⟩
          · intro ρ w1 hw h0 hc hg hf hd
            have d4 := hd ⟨4, .data⟩ (by simp) rfl _ _ _ rfl rfl rfl
            refine ⟨fun _ => ?_, fun h => by cases h⟩
            clear h0 hg hd
            obtain ⟨A4, c4, e4, h4⟩ := d4
            exact gives_string rfl (by rw [e4]; exact slb_of h4) ⟨Chg.refl _ _, rfl⟩
          · intro ρ w1 hw h0 hc hg hf hd
            have s0 : ρ (.tmp 0) = .slice A 64 c := h0 0 (by kernel_rfl)
            refine ⟨fun _ => ?_, fun h => by cases h⟩
            clear h0 hg hd
            exact gives_move rfl ⟨Chg.refl _ _, s0⟩
          · intro ρ w1 hw h0 hc hg hf hd
            have d6 := hd ⟨6, .data⟩ (by simp) rfl _ _ _ rfl rfl rfl
            refine ⟨fun _ => ?_, fun h => by cases h⟩
            clear h0 hg hd
            exact gives_string rfl (by rw [d6]; exact Src.chg HV.out hw (fun _ _ _ h => h) (by decide)) ⟨Chg.refl _ _, rfl⟩
          · intro ρ w1 hw h0 hc hg hf hd
            have d5 := hd ⟨5, .data⟩ (by simp) rfl _ _ _ rfl rfl rfl
            have d7 := hd ⟨7, .data⟩ (by simp) rfl _ _ _ rfl rfl rfl
            refine ⟨fun _ => ?_, fun h => by cases h⟩
            clear h0 hg hd
            exact gives_streq rfl d5 d7 (headI_bytes _ _) HBY.out ⟨Chg.refl _ _, rfl⟩
          · intro ρ w1 hw h0 hc hg hf hd
            have d0 := hd ⟨0, .data⟩ (by simp) rfl _ _ _ rfl rfl rfl
            refine ⟨fun _ => ?_, fun h => by cases h⟩
            clear h0 hg hd
            exact gives_assign rfl ⟨Chg.refl _ _, d0⟩
          · intro ρ w1 hw h0 hc hg hf hd
            have d8 := hd ⟨8, .data⟩ (by simp) rfl _ _ _ rfl rfl rfl
            refine ⟨fun _ => ?_, fun h => by cases h⟩
            clear h0 hg hd
            exact gives_assign rfl ⟨Chg.refl _ _, d8⟩
        · intro vs w3 hw hr
          have h9 := hr 9 _ rfl
          have h10 := hr 10 _ rfl
          clear hr
          dsimp only [putsL, restL]
          simp only [Act.put, List.setIfInBounds_toArray, List.set_cons_zero, List.set_cons_succ]
          rw [h9, h10]
          have HF3 := Lib.hid (show SlI w3 (.slice BO k cO) zs ∧ Below w.heap.size w w3 from ⟨HSL.out w3 ((Chg.refl (fun _ => False) wr).drew.trans hw), (HUW.out.trans ((Chg.refl (fun _ => False) wr).drew.trans hw)).below (Nat.le_refl _) (fun _ h => h.elim)⟩)
          obtain ⟨okb, hokb⟩ : ∃ okb, (headI zs 64 == bs) = okb := ⟨_, rfl⟩
          rw [hokb] at HFIN ⊢
          clear hw h9 h10 hokb
          go_wp2_with fail
          go_ret2
          exact ⟨.slice BO k cO, zs, okb, rfl, HF3.out.1, HFIN.out.1, HFIN.out.2, HBLK.out, HF3.out.2⟩
end Go.Proofs.Ytkndnlhlglgmfaa
