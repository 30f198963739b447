/-
  Flush, Read, Crash, walked.
-/
import Derived.Test.YtkndnlhlglgmfaaE4
namespace Go.Proofs.Ytkndnlhlglgmfaa
open Go.RowKit
def OwnD (p b : Nat) (sv : Value) (k : Nat) : Prop := k = p ∨ k = b ∨ sv.ownBlock = some k
def flushI (x : Dk) : Dk × Int := if x.down = true then (x, 30) else if (commI x).2 = 0 then (settleI (commI x).1, 0) else commI x
theorem commI_has (x : Dk) : (commI x).1.has = x.has := by unfold commI; split <;> rfl
/-- What Read tells. -/
def readI (x : Dk) (i : Int) : List Int × Int := if x.down = true then ([], 30) else if i < 0 ∨ (x.has.length : Int) ≤ i then ([], 11) else ((x.ca i).getD (x.has.getD i.toNat []), 0)
theorem DatB.slb {w : World} {d : Value} {xs : List Int} (h : DatB w d xs) : SlB w d xs := by
  rcases h.2 with ⟨hv, h0⟩ | ⟨g, cap, cur, rfl, _, _, h1, h2, _⟩
  · have : xs = [] := List.eq_nil_of_length_eq_zero h0
    subst this
    exact .inl ⟨hv, rfl, rfl⟩
  · exact .inr ⟨⟨g, 0, none⟩, cap, rfl, by have := h.1; omega, h1, by simpa [maxLen] using h2, fun j u hu => World.ownsRow.cells h rfl j u hu⟩
set_option maxRecDepth 100000 in
set_option maxHeartbeats 4000000 in
theorem flush_any (w : World) (p b m : Nat) (sv : Value) (ss : List Value) (C : Int → Option Value) (x : Dk) (h : DiskAt w p b m sv ss C x) (hl : -1 ≤ x.left ∧ x.left ≤ 9223372036854775807) (hdn : 0 ≤ x.done ∧ x.done ≤ 1000000) (hnb : x.has.length ≤ 65536) :
    Calls Try.prog 17 #[.pointer (some ⟨p, 0, none⟩)] w (fun e w' => ∃ m' ss' C', e = .returned (.int .i64 (flushI x).2) ∧ DiskAt w' p b m' sv ss' C' (flushI x).1 ∧ m' ≤ m ∧ Chg (OwnD p b sv) w w') := by
  have c5 := h.c5
  have H := Lib.hid h
  have HC := Lib.hid (command_any w p b m sv ss C x h hl hdn)
  clear h hl hdn
  unfold flushI
  by_cases h1 : x.down = true
  · rw [if_pos h1]
    rw [h1] at c5
    clear h1
    go_enter Try.func17, Try.ntmps17
    go_wp2_with fail
    go_ret
    exact ⟨m, ss, C, rfl, H.out, Nat.le_refl _, Chg.refl _ _⟩
  · have h1' : x.down = false := by simpa using h1
    rw [if_neg h1]
    rw [h1'] at c5
    clear h1 h1'
    have hch := commI_has x
    obtain ⟨y, hy⟩ : ∃ y, (commI x).1 = y := ⟨_, rfl⟩
    obtain ⟨r, hr⟩ : ∃ r, (commI x).2 = r := ⟨_, rfl⟩
    have hpair : commI x = (y, r) := by rw [← hy, ← hr]
    rw [hy] at hch
    rw [hy, hr] at HC
    rw [hpair]
    dsimp only
    clear hy hr hpair
    by_cases h2 : r = 0
    · subst h2
      rw [if_pos rfl]
      have hnb' : y.has.length ≤ 65536 := by rw [hch]; exact hnb
      clear hch
      go_enter Try.func17, Try.ntmps17
      go_wp2_with fail
      refine HC.out.mono ?_
      rintro e w1 ⟨rfl, hd1, hc1⟩
      have HS := Lib.hid (settle_any w1 p b m sv ss C y hd1 hnb')
      have HC1 := Lib.hid hc1
      clear hd1 hc1
      go_wp2_with fail
      refine HS.out.mono ?_
      rintro e w2 ⟨⟨v, rfl⟩, ss2, hd2, hc2⟩
      have HD2 := Lib.hid hd2
      have HC2 := Lib.hid hc2
      clear hd2 hc2
      go_wp2_with fail
      go_ret
      exact ⟨0, ss2, _, rfl, HD2.out, by omega, (HC1.out.mono (fun k _ hk => .inl hk)).then HC2.out (fun k hk => .inl (.inr hk))⟩
    · have h2' : (r == 0) = false := by rw [beq_eq_false_iff_ne]; exact h2
      rw [if_neg h2]
      go_enter Try.func17, Try.ntmps17
      go_wp2_with fail
      refine HC.out.mono ?_
      rintro e w1 ⟨rfl, hd1, hc1⟩
      have HD1 := Lib.hid hd1
      have HC1 := Lib.hid hc1
      clear hd1 hc1
      go_wp2_with fail
      go_ret
      exact ⟨m, ss, C, rfl, HD1.out, Nat.le_refl _, HC1.out.mono (fun k _ hk => .inl hk)⟩
set_option maxRecDepth 100000 in
set_option maxHeartbeats 4000000 in
theorem read_any (w : World) (p b m : Nat) (sv : Value) (ss : List Value) (C : Int → Option Value) (x : Dk) (h : DiskAt w p b m sv ss C x) (hnb : x.has.length ≤ 65536) (i : Int) (hi : I64 i) (hsz : ∀ xs, ((∃ j, xs = x.has.getD j []) ∨ ∃ j, x.ca j = some xs) → xs.length ≤ 1000000) :
    Calls Try.prog 18 #[.pointer (some ⟨p, 0, none⟩), .int .i64 i] w (fun e w' => ∃ v, e = .returned (.tuple #[v, .int .i64 (readI x i).2]) ∧ w'.ownsRow w.heap.size 5 1 v (readI x i).1.length (u8s (readI x i).1) ∧ Below w.heap.size w w') := by
  have c5 := h.c5
  have c2 := h.c2
  have c1 := h.c1
  obtain ⟨A, cs, rfl⟩ := own_shape h.row
  rw [h.len] at c1
  have hlook := cache_look h.map hi
  have HROW := Lib.hid h.row
  have H := Lib.hid h
  have HSZ := Lib.hid hsz
  clear h hsz
  unfold readI
  by_cases h1 : x.down = true
  · rw [if_pos h1]
    rw [h1] at c5
    clear h1
    go_enter Try.func18, Try.ntmps18
    go_wp2_with fail
    go_ret2
    exact ⟨_, rfl, World.ownsRow_nil _ _ _ _, Below.refl _ _⟩
  have h1' : x.down = false := by simpa using h1
  rw [if_neg h1]
  rw [h1'] at c5
  clear h1 h1'
  by_cases h2 : i < 0
  · rw [if_pos (.inl h2)]
    go_enter Try.func18, Try.ntmps18
    go_wp2_with fail
    go_ret2
    exact ⟨_, rfl, World.ownsRow_nil _ _ _ _, Below.refl _ _⟩
  by_cases h3 : (x.has.length : Int) ≤ i
  · rw [if_pos (.inr h3)]
    go_enter Try.func18, Try.ntmps18
    go_wp2_with fail
    go_ret2
    exact ⟨_, rfl, World.ownsRow_nil _ _ _ _, Below.refl _ _⟩
  rw [if_neg (by omega)]
  dsimp only
  cases hc : C i with
  | some v =>
    obtain ⟨_, _, xs, hca, hdat⟩ := H.out.key i v hc
    rw [hc] at hlook
    simp only [Option.getD_some, Option.isSome_some] at hlook
    rw [hca]
    have hxl := HSZ.out xs (.inr ⟨i, hca⟩)
    have HCL := Lib.hid (clone_any v xs w hdat.slb (by unfold Room; omega))
    clear hdat hca hc
    · go_enter Try.func18, Try.ntmps18
      go_wp2_with fail
      refine HCL.out.mono ?_
      rintro e w1 ⟨v', rfl, hown, hb, _⟩
      have HOWN := Lib.hid hown
      have HB := Lib.hid hb
      clear hown hb
      go_wp2_with fail
      go_ret2
      exact ⟨_, rfl, HOWN.out, HB.out⟩
  | none =>
    rw [H.out.non i hc]
    rw [hc] at hlook
    simp only [Option.getD_none, Option.isSome_none] at hlook
    obtain ⟨k, rfl⟩ : ∃ k : Nat, i = k := ⟨i.toNat, by omega⟩
    have hk : k < x.has.length := by omega
    rw [Int.toNat_natCast]
    have hdat := H.out.sec k hk
    have hxl := HSZ.out _ (.inl ⟨k, rfl⟩)
    obtain ⟨xs, hxs⟩ : ∃ xs, x.has.getD k [] = xs := ⟨_, rfl⟩
    rw [hxs] at hdat hxl ⊢
    have hl := H.out.len
    obtain ⟨g, rfl⟩ : ∃ g, A = some ⟨g, 0, none⟩ := by
      rcases HROW.out.2 with ⟨_, hz⟩ | ⟨g, cap, cur, he, _⟩
      · omega
      · injection he with e1; exact ⟨g, e1⟩
    have hce := World.ownsRow.cells HROW.out rfl k _ (List.getElem?_eq_getElem (show k < ss.length by omega))
    rw [addr_add, Nat.zero_add] at hce
    obtain ⟨d, hd⟩ : ∃ d, ss[k]'(by omega) = d := ⟨_, rfl⟩
    rw [hd] at hce
    rw [show ss.getD k undef = d by rw [List.getD_eq_getElem?_getD, List.getElem?_eq_getElem (show k < ss.length by omega)]; exact hd] at hdat
    have HCL := Lib.hid (clone_any d xs w hdat.slb (by unfold Room; omega))
    obtain ⟨A2, c2', rfl⟩ := own_shape hdat
    clear hdat hxs hd hc hl
    · go_enter Try.func18, Try.ntmps18
      go_wp2_with fail
      refine HCL.out.mono ?_
      rintro e w1 ⟨v', rfl, hown, hb, _⟩
      have HOWN := Lib.hid hown
      have HB := Lib.hid hb
      clear hown hb
      go_wp2_with fail
      go_ret2
      exact ⟨_, rfl, HOWN.out, HB.out⟩
end Go.Proofs.Ytkndnlhlglgmfaa
