/-
  'region_mono' inside a round of a range over a function, and inside whatever fence holds all.
-/
import Derived.Test.YtaahffminoekfaaDoorM
import Derived.OrdersIn
import Derived.OwnWalkIn
import Derived.RangeFuncCalls
namespace Go.Proofs.YtaahffminoekfaaDoor
/-- A fence that holds all. -/
structure WideF (F : Fence) : Prop where
  fn : ∀ f, F.fn f
  depth : F.depth = none
  calls : ∀ (n : Nat) (P : Program) (f : FuncId) (args : Array Value) (w : World) (R : Ending → World → Prop), Calls P f args w R → CallsIn F n P f args w R
theorem wideF : WideF Fence.wide := ⟨fun _ => trivial, rfl, fun _ _ _ _ _ _ h => callsIn_wide.2 h⟩
theorem WideF.round {F : Fence} (h : WideF F) (l : Nat) : WideF (F.inRound l) := ⟨h.fn, h.depth, fun n P f args w R k => CallsIn.inRound l (h.calls n P f args w R k)⟩
theorem wpIn_of_gives {F : Fence} {n : Nat} (hF : WideF F) {P : Program} {o : Oper} {a : Act} {w : World} {Φ : Value → World → Prop} {K : Act → World → Prop} {Q : Exit → Act → World → Prop} (hd : ∀ c, o.op ≠ .defer c) (h : Gives P o a.eval w Φ) (hK : ∀ v w', Φ v w' → K (a.put o.dst v) w') : o.wpIn F n P a w K Q := by
  unfold Gives at h
  refine ⟨fun f _ => hF.fn f, ?_⟩
  rw [Oper.semAt_plain F _ _ hd]
  generalize (execOp a.eval o).run P w = r at *
  cases r with
  | ok x w' =>
    cases x <;> simp only at h <;> simp only [Oper.uponIn]
    case value => exact hK _ _ h
    case skip => exact hK _ _ h
    case enter => exact ⟨fun hs => (by rw [hF.depth] at hs; cases hs), (hF.calls _ _ _ _ _ _ h).mono fun e w'' ⟨v, he, hv⟩ => by subst he; exact hK _ _ hv⟩
  | halt x w' => simp only at h
theorem wpListIn_gives {F : Fence} {n : Nat} (hF : WideF F) {P : Program} {ops : Array Oper} {rest : List Oper} {o : Oper} {a : Act} {w : World} {Φ : Value → World → Prop} {Q : Exit → Act → World → Prop} (hg : o.guard = none) (hd : ∀ c, o.op ≠ .defer c) (h : Gives P o a.eval w Φ)
    (hK : ∀ v w', Φ v w' → wpListIn F n P ops Q rest (a.put o.dst v) w') : wpListIn F n P ops Q (o :: rest) a w :=
  wpListIn_plain hg fun _ hk => wpIn_of_gives hF hd h fun v w' hv => hk _ _ (hK v w' hv)
theorem wpAnyIn_nil {F : Fence} {n : Nat} {P : Program} {ops : Array Oper} {md : Region.Mode} {Q : Exit → Act → World → Prop} {listed : Array Bool} {a : Act} {w : World} (hr : Region.ready md ops listed = []) (h : Q .normal a w) : ∀ fuel, wpAnyIn F n P md ops Q fuel listed a w
  | 0 => ⟨hr, h⟩
  | _ + 1 => ⟨fun _ => h, by rw [hr]; simp⟩
def noDefer (l : List Oper) : Bool := l.all fun o => match o.op with | .defer _ => false | _ => true
theorem noDefer_spec {l : List Oper} (h : noDefer l = true) : ∀ o ∈ l, ∀ c, o.op ≠ .defer c := fun o ho c hc => by
  have := List.all_eq_true.1 h o ho
  simp [hc] at this
theorem tail_anyIn {F : Fence} {m : Nat} (hF : WideF F) {P : Program} {Q : Exit → Act → World → Prop} {l : List Oper} {n : Nat} (hO : ordB l n = true) : ∀ (rest : List Oper) (k : Nat) (listed : Array Bool) (a : Act) (w : World) (fuel : Nat), (∀ j, rest[j]? = l[k + j]?) → listed.size = l.length → n ≤ k → k + rest.length = l.length →
    (∀ j, j < l.length → listed.getD j false = decide (j < k)) → rest.length ≤ fuel → wpListIn F m P l.toArray Q rest a w → wpAnyIn F m P .any l.toArray Q fuel listed a w
  | [], k, listed, a, w, fuel, _, hs, _, hk, hl, _, h => by
    refine wpAnyIn_nil ?_ h fuel
    cases hr : Region.ready .any l.toArray listed with
    | nil => rfl
    | cons j js =>
      exfalso
      have hm : j ∈ Region.ready .any l.toArray listed := by rw [hr]; simp
      obtain ⟨hun, o, ho, _⟩ := mem_ready.1 hm
      rw [List.getElem?_toArray] at ho
      have hjl := (List.getElem?_eq_some_iff.1 ho).1
      have h1 := hl j hjl
      have hlt : j < listed.size := by rw [hs]; exact hjl
      have hjk : j < k := by simp at hk; omega
      simp [hlt] at hun h1
      rw [hun] at h1
      simp at h1
      omega
  | o :: rest, k, listed, a, w, 0, _, _, _, _, _, hf, _ => by simp at hf
  | o :: rest, k, listed, a, w, fuel + 1, hr, hs, hn, hk, hl, hf, h => by
    have ho : l[k]? = some o := by simpa using (hr 0).symm
    have hkl : k < l.length := (List.getElem?_eq_some_iff.1 ho).1
    have only : ∀ i ∈ Region.ready .any l.toArray listed, i = k := fun i hi => by
      obtain ⟨hun, oi, hoi, haf⟩ := mem_ready.1 hi
      rw [List.getElem?_toArray] at hoi
      have hil := (List.getElem?_eq_some_iff.1 hoi).1
      have hlt : i < listed.size := by rw [hs]; exact hil
      have h1 := hl i hil
      have hik : ¬ i < k := by
        intro hik
        simp [hlt] at hun h1
        rw [hun] at h1
        simp at h1
        omega
      rcases Nat.lt_or_eq_of_le (Nat.le_of_not_lt hik) with hlt' | he
      · exfalso
        obtain ⟨e, he, hb, hon⟩ := (ordB_at hO hoi).2 (by omega) k hlt'
        have h2 := haf e he hb
        rw [hon, hl k hkl] at h2
        simp at h2
      · exact he.symm
    have isr : k ∈ Region.ready .any l.toArray listed := mem_ready.2 ⟨by
      have h1 := hl k hkl
      have hlt : k < listed.size := by rw [hs]; exact hkl
      simp [hlt] at h1 ⊢
      exact h1, o, by rw [List.getElem?_toArray]; exact ho, fun e he hb => by
        have h2 := (ordB_at hO ho).1 e he hb
        rw [hl e.on (by omega)]
        simpa using h2⟩
    refine ⟨fun h0 => (by rw [h0] at isr; cases isr), fun i hi => ?_⟩
    rw [only i hi]
    have hnext : ∀ a' w', wpListIn F m P l.toArray Q rest a' w' → wpAnyIn F m P .any l.toArray Q fuel (listed.setIfInBounds k true) a' w' := fun a' w' h' =>
      tail_anyIn hF hO rest (k + 1) _ a' w' fuel (fun j => by have := hr (j + 1); simpa [Nat.add_assoc, Nat.add_comm 1 j] using this) (by simpa using hs) (by omega) (by simp at hk; omega) (fun j hj => by
        by_cases hjk : j = k
        · subst hjk
          have : j < listed.size := by omega
          simp [this]
        · rw [getD_set_ne false (Ne.symm hjk), hl j hj]
          rw [Bool.eq_iff_iff]
          simp
          omega) (by simpa using hf) h'
    unfold wpOpIn
    simp only [List.getElem?_toArray, ho]
    change (if Region.wanted o (yielded l.toArray a.tmps) = true then Oper.wpIn F m P o a w (wpListIn F m P l.toArray Q rest) Q else (∀ f, o.about P w a.eval = some f → F.fn f) ∧ wpListIn F m P l.toArray Q rest (a.put o.dst undef) w) at h
    split
    · rename_i hw
      rw [if_pos hw] at h
      exact Oper.wpIn_mono hnext h
    · rename_i hw
      rw [if_neg hw] at h
      exact ⟨h.1, hnext _ _ h.2⟩
theorem region_monoIn {F : Fence} {m : Nat} (hF : WideF F) {P : Program} {id : Nat} {Q : Exit → Act → World → Prop} {a0 : Act} {w0 : World} {l : List Oper} (ext : World → World → Prop) (rs : List Fact) (hm : P.follows .mixedOrders = true) (hdB : noDefer l = true) (hB : (monoB l a0.tmps.size && ordB l rs.length) = true)
    (href : ∀ w, ext w w) (htr : ∀ a b c, ext a b → ext b c → ext a c) (hl : rs.length ≤ l.length) (hst : ∀ r ∈ rs, ∀ v w w', ext w0.drew w → ext w w' → r v w → r v w')
    (hobs : Obs P l a0 w0.drew ext rs l rs) (fin : ∀ (vs : Nat → Value) (w : World), ext w0.drew w → (∀ (k : Nat) (r : Fact), rs[k]? = some r → r (vs k) w) → wpListIn F m P l.toArray Q (restL l rs) (putsL l rs 0 vs a0) w) :
    (Code.region id l.toArray true).wpIn F m P Q a0 w0 := by
  simp only [Bool.and_eq_true] at hB
  obtain ⟨hB, hO⟩ := hB
  have hdef := noDefer_spec hdB
  obtain ⟨n, hn⟩ : ∃ n, rs.length = n := ⟨_, rfl⟩
  rw [hn] at hO
  refine wpIn_region_any hm ?_
  have full : ∀ (fuel : Nat) (listed : Array Bool) (a : Act) (w : World), Inv l n a0 w0.drew ext rs listed a w → (∀ j, j < n → listed.getD j false = true) → l.length - n ≤ fuel → wpAnyIn F m P .any l.toArray Q fuel listed a w := fun fuel listed a w hi hall hf => by
    obtain ⟨vs, hsl, hrs⟩ := hi.ex
    have h0 : Slots l a0 a0 (Array.replicate l.length false) vs := ⟨rfl, rfl, fun t _ => by
      cases writer l t with
      | none => rfl
      | some j =>
        have : (Array.replicate l.length false).getD j false = false := by
          by_cases hj : j < l.length <;> simp [hj]
        simp only [this]; rfl⟩
    have hpat : ∀ j, listed.getD j false = decide (j < n) := fun j => by
      by_cases hj : j < n
      · rw [hall j hj]; simp [hj]
      · rw [hi.low j (by omega)]; simp [hj]
    obtain ⟨listed', h1, h2⟩ := putsL_slots vs l a0 hB l rs 0 a0 _ (fun j => by simp) (by simp) hl (by simp) h0
    rw [hsl.eq h2 (fun j hj => by
      rw [h1 j, hpat j]
      have : (Array.replicate l.length false).getD j false = false := by simp [hj]
      rw [this, hn]
      simp)]
    have hfin := fin vs w hi.ext (fun k r hk => hrs k r hk (hall k (by have := (List.getElem?_eq_some_iff.1 hk).1; omega)))
    rw [restL_eq l rs hl, hn] at hfin
    exact tail_anyIn hF hO (l.drop n) n listed _ w fuel (fun j => by simp) hi.size (Nat.le_refl _) (by simp; omega) (fun j _ => hpat j) (by simpa using hf) hfin
  have step : ∀ (listed : Array Bool) (a : Act) (w : World) (K : Act → World → Prop), Inv l n a0 w0.drew ext rs listed a w → ∀ i ∈ Region.ready .any l.toArray listed, i < n → (∀ a' w', Inv l n a0 w0.drew ext rs (listed.setIfInBounds i true) a' w' → K a' w') → wpOpIn F m P l.toArray Q i K a w := fun listed a w K hi i hri hin hK => by
    obtain ⟨vs, hsl, hrs⟩ := hi.ex
    obtain ⟨hun, o, ho, haf⟩ := mem_ready.1 hri
    rw [List.getElem?_toArray] at ho
    have hil : i < l.length := (List.getElem?_eq_some_iff.1 ho).1
    have his : i < listed.size := by rw [hi.size]; exact hil
    obtain ⟨r, hr⟩ : ∃ r, rs[i]? = some r := ⟨rs[i]'(by omega), List.getElem?_eq_getElem _⟩
    have hslot : ∀ o' ∈ l, ∀ d, o'.dst = some d → d < a.tmps.size := fun o' ho' d hd => by
      obtain ⟨j, hj⟩ := List.mem_iff_getElem?.1 ho'
      rw [hsl.size]
      exact ((monoB_at hB hj).1 d hd).2
    have next : ∀ v w', ext w w' → r v w' → Inv l n a0 w0.drew ext rs (listed.setIfInBounds i true) (a.put o.dst v) w' := fun v w' he hv => by
      refine ⟨by simpa using hi.size, htr _ _ _ hi.ext he, fun j hj => by rw [getD_set_ne false (by omega)]; exact hi.low j hj, updv vs i v, hsl.put hB ho his v, fun j rj hj hlj => ?_⟩
      by_cases hji : j = i
      · subst hji
        rw [hr] at hj
        cases hj
        simpa [updv] using hv
      · rw [getD_set_ne false (Ne.symm hji)] at hlj
        have := hst rj (List.mem_of_getElem? hj) (vs j) w w' hi.ext he (hrs j rj hj hlj)
        simpa [updv, hji] using this
    have hob := obs_get hobs ho hr a.eval w hi.ext (fun t ht => by
      by_cases hlt : t < a0.tmps.size
      · have := hsl.slot t hlt
        rw [ht] at this
        simp only [Act.eval]
        simp only [Array.getD_eq_getD_getElem?, this]
      · simp only [Act.eval]
        rw [Array.getD_eq_getD_getElem?, Array.getD_eq_getD_getElem?, Array.getElem?_eq_none (by rw [hsl.size]; exact Nat.le_of_not_lt hlt), Array.getElem?_eq_none (Nat.le_of_not_lt hlt)]) (fun _ => rfl) (fun _ => rfl) (fun _ => rfl)
      (fun e he hb oj d rj hoj hd hrj => by
        have hlj := haf e he hb
        have hdw := (monoB_at hB hoj).1 d hd
        have := hsl.slot d hdw.2
        rw [hdw.1] at this
        simp only [hlj, if_true] at this
        have hv : a.eval (.tmp d) = vs e.on := by simp only [Act.eval, Array.getD_eq_getD_getElem?, this, Option.getD_some]
        rw [hv]
        exact hrs e.on rj hrj hlj)
    unfold wpOpIn
    simp only [List.getElem?_toArray, ho]
    rw [wanted_eq o hslot]
    cases hw : wantedBy l a.eval o with
    | true =>
      simp only [if_true]
      exact wpIn_of_gives hF (hdef o (List.mem_of_getElem? ho)) (hob.1 hw) fun v w' ⟨he, hv⟩ => hK _ _ (next v w' he hv)
    | false =>
      simp only [Bool.false_eq_true, if_false]
      exact ⟨fun f _ => hF.fn f, hK _ _ (next undef w (href w) (hob.2 hw))⟩
  have all : ∀ (fuel : Nat) (listed : Array Bool) (a : Act) (w : World), Inv l n a0 w0.drew ext rs listed a w → (List.range n).countP (fun j => !listed.getD j false) + (l.length - n) ≤ fuel → wpAnyIn F m P .any l.toArray Q fuel listed a w := by
    intro fuel
    induction fuel with
    | zero =>
      intro listed a w hi hc
      exact full 0 listed a w hi (fun j hj => by
        have := List.countP_eq_zero.1 (show (List.range n).countP (fun j => !listed.getD j false) = 0 by omega) j (List.mem_range.2 hj)
        simpa using this) (by omega)
    | succ fuel ih =>
      intro listed a w hi hc
      by_cases hall : ∀ j, j < n → listed.getD j false = true
      · exact full _ listed a w hi hall (by omega)
      · have low : ∀ i ∈ Region.ready .any l.toArray listed, i < n := fun i hri => by
          obtain ⟨hun, o, ho, haf⟩ := mem_ready.1 hri
          rw [List.getElem?_toArray] at ho
          refine Nat.lt_of_not_le fun hni => hall fun j hj => ?_
          obtain ⟨e, he, hb, hon⟩ := (ordB_at hO ho).2 hni j (by omega)
          rw [← hon]
          exact haf e he hb
        refine ⟨fun h0 => ?_, fun i hri => step listed a w _ hi i hri (low i hri) fun a' w' hi' => ih _ a' w' hi' ?_⟩
        · exfalso
          refine hall ?_
          have : ∀ m j, j < m → j < n → listed.getD j false = true := by
            intro m
            induction m with
            | zero => intro j hj; omega
            | succ m ihm =>
              intro j hj hjn
              cases hu : listed.getD j false with
              | true => rfl
              | false =>
                exfalso
                have hjl : j < l.length := by omega
                have hm : j ∈ Region.ready .any l.toArray listed := mem_ready.2 ⟨by
                  have hlt : j < listed.size := by rw [hi.size]; exact hjl
                  simpa [hlt] using hu, l[j], by simp [hjl], fun e he hb => by
                    have := (ordB_at hO (List.getElem?_eq_getElem hjl)).1 e he hb
                    exact ihm e.on (by omega) (by omega)⟩
                rw [h0] at hm
                cases hm
          exact fun j hj => this (j + 1) j (by omega) hj
        · obtain ⟨hun, o, ho, _⟩ := mem_ready.1 hri
          rw [List.getElem?_toArray] at ho
          have hil : i < l.length := (List.getElem?_eq_some_iff.1 ho).1
          have his : i < listed.size := by rw [hi.size]; exact hil
          have hlt : (List.range n).countP (fun j => !(listed.setIfInBounds i true).getD j false) < (List.range n).countP (fun j => !listed.getD j false) := by
            refine countP_less (x := i) (fun j _ hj => ?_) (List.mem_range.2 (low i hri)) (by simpa [his] using hun) (by simp [his])
            by_cases hji : j = i
            · subst hji; simp [his] at hj
            · rwa [getD_set_ne false (Ne.symm hji)] at hj
          omega
  refine all _ _ a0 _ ⟨by simp, href _, fun j _ => ?_, fun _ => undef, ⟨rfl, rfl, fun t _ => ?_⟩, fun j r _ hj => ?_⟩ ?_
  · by_cases hj : j < l.length <;> simp [hj]
  · cases writer l t with
    | none => rfl
    | some j =>
      have : (Array.replicate l.toArray.size false).getD j false = false := by
        by_cases hj : j < l.length <;> simp [hj]
      simp only [this]; rfl
  · have : (Array.replicate l.toArray.size false).getD j false = false := by
      by_cases hj : j < l.length <;> simp [hj]
    rw [this] at hj
    cases hj
  · have : (List.range n).countP (fun j => !(Array.replicate l.toArray.size false).getD j false) ≤ n := by
      refine Nat.le_trans List.countP_le_length ?_
      simp
    simp only [List.size_toArray] at this ⊢
    omega
end Go.Proofs.YtaahffminoekfaaDoor
