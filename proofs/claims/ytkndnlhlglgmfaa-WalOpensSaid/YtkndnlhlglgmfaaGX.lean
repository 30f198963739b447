/-
  A region that draws its order: each operation yields a value of which a relation holds that abides whatever comes after; then whatever the order, all relations hold at the end. 'region_mono' inside a round of a range over a function, and inside whatever fence holds all. Operations and what they give: loads and stores of whole arrays, appends.
-/
import Derived.WalkKit
import Derived.Lib.Hide
import Derived.KernelRfl
import Derived.OrdersIn
import Derived.OwnWalkIn
import Derived.RangeFuncCalls
import Derived.Deep.MidRow
namespace Go.Proofs.Ytkndnlhlglgmfaa
abbrev Fact := Value → World → Prop
/-- An operation, carried out where the operands mean this, yields a value and a world of which Φ holds. -/
def Gives (P : Program) (o : Oper) (ρ : Operand → Value) (w : World) (Φ : Value → World → Prop) : Prop :=
  match (execOp ρ o).run P w with
  | .ok (.value v) w' => Φ v w'
  | .ok .skip w' => Φ undef w'
  | .ok (.enter f args) w' => Calls P f args w' fun e w'' => ∃ v, e = .returned v ∧ Φ v w''
  | _ => False
theorem Gives.value {P : Program} {o : Oper} {ρ : Operand → Value} {w w' : World} {Φ : Value → World → Prop} {v : Value} (h : (execOp ρ o).run P w = .ok (.value v) w') (k : Φ v w') : Gives P o ρ w Φ := by
  unfold Gives; rw [h]; exact k
theorem Gives.skip {P : Program} {o : Oper} {ρ : Operand → Value} {w w' : World} {Φ : Value → World → Prop} (h : (execOp ρ o).run P w = .ok .skip w') (k : Φ undef w') : Gives P o ρ w Φ := by
  unfold Gives; rw [h]; exact k
theorem Gives.enter {P : Program} {o : Oper} {ρ : Operand → Value} {w w' : World} {Φ : Value → World → Prop} {f : FuncId} {args : Array Value} (h : (execOp ρ o).run P w = .ok (.enter f args) w')
    (k : Calls P f args w' fun e w'' => ∃ v, e = .returned v ∧ Φ v w'') : Gives P o ρ w Φ := by
  unfold Gives; rw [h]; exact k
theorem Gives.mono {P : Program} {o : Oper} {ρ : Operand → Value} {w : World} {Φ Ψ : Value → World → Prop} (h : Gives P o ρ w Φ) (k : ∀ v w', Φ v w' → Ψ v w') : Gives P o ρ w Ψ := by
  unfold Gives at *
  split at h
  · exact k _ _ h
  · exact k _ _ h
  · exact h.mono fun e w'' ⟨v, he, hv⟩ => ⟨v, he, k _ _ hv⟩
  · exact h.elim
theorem wp_of_gives {P : Program} {o : Oper} {a : Act} {w : World} {Φ : Value → World → Prop} {K : Act → World → Prop} {Q : Exit → Act → World → Prop} (h : Gives P o a.eval w Φ) (hK : ∀ v w', Φ v w' → K (a.put o.dst v) w') : o.wp P a w K Q := by
  unfold Gives at h
  unfold Oper.wp
  generalize (execOp a.eval o).run P w = r at *
  cases r with
  | ok n w' =>
    cases n <;> simp only at h <;> simp only [Oper.upon]
    case value => exact hK _ _ h
    case skip => exact hK _ _ h
    case enter => exact h.mono fun e w'' ⟨v, he, hv⟩ => by subst he; exact hK _ _ hv
  | halt x w' => simp only at h
theorem Gives.congr {P : Program} {o : Oper} {ρ ρ' : Operand → Value} {w : World} {Φ : Value → World → Prop} (he : execOp ρ o = execOp ρ' o) (h : Gives P o ρ w Φ) : Gives P o ρ' w Φ := by
  unfold Gives at *; rwa [← he]
/-- Which operation writes a slot. -/
def writer (l : List Oper) (t : Tmp) : Option Nat := l.findIdx? fun o => o.dst == some t
theorem writer_some {l : List Oper} {t : Tmp} {j : Nat} (h : writer l t = some j) : ∃ o, l[j]? = some o ∧ o.dst = some t := by
  obtain ⟨hj, he, _⟩ := List.findIdx?_eq_some_iff_getElem.1 h
  exact ⟨l[j], List.getElem?_eq_getElem hj, by simpa using he⟩
/-- Each slot has one writer; who looks at a slot waits for its writer; the slots are there. -/
def monoB (l : List Oper) (size : Nat) : Bool :=
  Region.noSelect l.toArray && (List.range l.length).all fun i => match l[i]? with
    | none => true
    | some o => (match o.dst with | some d => writer l d == some i && decide (d < size) | none => true) &&
      (o.looksAt l.toArray).all fun t => match writer l t with | none => true | some j => o.after.any fun e => Region.binds .any e && e.on == j
theorem monoB_sel {l : List Oper} {size : Nat} (h : monoB l size = true) : Region.noSelect l.toArray = true := by
  unfold monoB at h
  simp only [Bool.and_eq_true] at h
  exact h.1
theorem monoB_at {l : List Oper} {size : Nat} (h : monoB l size = true) {i : Nat} {o : Oper} (ho : l[i]? = some o) :
    (∀ d, o.dst = some d → writer l d = some i ∧ d < size) ∧ ∀ t ∈ o.looksAt l.toArray, ∀ j, writer l t = some j → ∃ e ∈ o.after, Region.binds .any e = true ∧ e.on = j := by
  unfold monoB at h
  simp only [Bool.and_eq_true, List.all_eq_true, List.mem_range] at h
  have h2 := h.2 i (List.getElem?_eq_some_iff.1 ho).1
  rw [ho] at h2
  simp only [Bool.and_eq_true, List.all_eq_true] at h2
  refine ⟨fun d hd => ?_, fun t ht j hj => ?_⟩
  · have := h2.1
    rw [hd] at this
    simpa using this
  · have := h2.2 t ht
    rw [hj] at this
    obtain ⟨e, he, hb⟩ := Array.any_eq_true'.1 this
    simp only [Bool.and_eq_true, beq_iff_eq] at hb
    exact ⟨e, he, hb.1, hb.2⟩
def updv (vs : Nat → Value) (i : Nat) (v : Value) : Nat → Value := fun j => if j = i then v else vs j
structure Slots (l : List Oper) (a0 a : Act) (listed : Array Bool) (vs : Nat → Value) : Prop where
  defers : a.defers = a0.defers
  size : a.tmps.size = a0.tmps.size
  slot : ∀ t, t < a0.tmps.size → a.tmps[t]? = match writer l t with
    | some j => if listed.getD j false = true then some (vs j) else a0.tmps[t]?
    | none => a0.tmps[t]?
theorem Slots.put {l : List Oper} {a0 a : Act} {listed : Array Bool} {vs : Nat → Value} (h : Slots l a0 a listed vs) (hB : monoB l a0.tmps.size = true) {i : Nat} {o : Oper} (ho : l[i]? = some o) (hi : i < listed.size) (v : Value) :
    Slots l a0 (a.put o.dst v) (listed.setIfInBounds i true) (updv vs i v) := by
  have key : ∀ t j, o.dst ≠ some t → writer l t = some j → j ≠ i := fun t j hne hw hji => by
    subst hji
    obtain ⟨o', ho', hd⟩ := writer_some hw
    rw [ho] at ho'
    cases ho'
    exact hne hd
  have other : ∀ t, o.dst ≠ some t → t < a0.tmps.size → a.tmps[t]? = match writer l t with
      | some j => if (listed.setIfInBounds i true).getD j false = true then some (updv vs i v j) else a0.tmps[t]?
      | none => a0.tmps[t]? := fun t hne ht => by
    rw [h.slot t ht]
    cases hw : writer l t with
    | none => rfl
    | some j =>
      have hji := key t j hne hw
      simp only []
      rw [getD_set_ne false (Ne.symm hji)]
      simp [updv, hji]
  cases hd : o.dst with
  | none =>
    refine ⟨h.defers, h.size, fun t ht => ?_⟩
    exact other t (by simp [hd]) ht
  | some d =>
    refine ⟨h.defers, by simpa [Act.put] using h.size, fun t ht => ?_⟩
    by_cases hdt : d = t
    · subst hdt
      have hw := ((monoB_at hB ho).1 d hd).1
      rw [hw]
      have hs := h.size
      simp [Act.put, updv, hi, hs, ht]
    · have := other t (by rw [hd]; simpa using hdt) ht
      rw [← this]
      simp [Act.put, Array.getElem?_setIfInBounds_ne hdt]
/-- The frame behind the operations that bear a relation, in the order of the text. -/
def putsL : List Oper → List Fact → Nat → (Nat → Value) → Act → Act
  | o :: l, _ :: rs, k, vs, a => putsL l rs (k + 1) vs (a.put o.dst (vs k))
  | _, _, _, _, a => a
/-- The operations behind these. -/
def restL : List Oper → List Fact → List Oper
  | _ :: l, _ :: rs => restL l rs
  | l, _ => l
theorem restL_eq : ∀ (l : List Oper) (rs : List Fact), rs.length ≤ l.length → restL l rs = l.drop rs.length
  | _ :: l, _ :: rs, h => by simpa [restL] using restL_eq l rs (by simpa using h)
  | [], [], _ => rfl
  | _ :: _, [], _ => rfl
  | [], _ :: _, h => by simp at h
theorem putsL_slots (vs : Nat → Value) (l : List Oper) (a0 : Act) (hB : monoB l a0.tmps.size = true) : ∀ (rest : List Oper) (rs : List Fact) (k : Nat) (a : Act) (listed : Array Bool), (∀ j, rest[j]? = l[k + j]?) → listed.size = l.length → rs.length ≤ rest.length → k + rest.length = l.length →
    Slots l a0 a listed vs → ∃ listed', (∀ j, listed'.getD j false = (listed.getD j false || (decide (k ≤ j) && decide (j < k + rs.length)))) ∧ Slots l a0 (putsL rest rs k vs a) listed' vs
  | rest, [], k, a, listed, _, _, _, _, h => by
    refine ⟨listed, fun j => ?_, ?_⟩
    · have : (decide (k ≤ j) && decide (j < k + ([] : List Fact).length)) = false := by simp
      rw [this, Bool.or_false]
    · cases rest <;> exact h
  | [], _ :: _, _, _, _, _, _, hr, _, _ => by simp at hr
  | o :: rest, r :: rs, k, a, listed, hr, hs, hn, hk, h => by
    have ho : l[k]? = some o := by simpa using (hr 0).symm
    have hkl : k < listed.size := by simp at hk; omega
    have h1 := h.put hB ho hkl (vs k)
    have he : updv vs k (vs k) = vs := by funext j; unfold updv; split <;> simp_all
    rw [he] at h1
    obtain ⟨listed', h2, h3⟩ := putsL_slots vs l a0 hB rest rs (k + 1) _ _ (fun j => by have := hr (j + 1); simpa [Nat.add_assoc, Nat.add_comm 1 j] using this) (by simpa using hs) (by simpa using hn) (by simp at hk; omega) h1
    refine ⟨listed', fun j => ?_, h3⟩
    rw [h2 j]
    by_cases hjk : j = k
    · subst hjk
      have : (listed.setIfInBounds j true).getD j false = true := by simp [hkl]
      rw [this]
      simp
    · rw [getD_set_ne false (Ne.symm hjk)]
      congr 1
      rw [Bool.eq_iff_iff]
      simp
      omega
theorem Slots.eq {l : List Oper} {a0 a b : Act} {la lb : Array Bool} {vs : Nat → Value} (ha : Slots l a0 a la vs) (hb : Slots l a0 b lb vs) (h : ∀ j, j < l.length → la.getD j false = lb.getD j false) : a = b := by
  have hd : a.defers = b.defers := ha.defers.trans hb.defers.symm
  have ht : a.tmps = b.tmps := by
    apply Array.ext_getElem?
    intro t
    by_cases hlt : t < a0.tmps.size
    · rw [ha.slot t hlt, hb.slot t hlt]
      cases hw : writer l t with
      | none => rfl
      | some j =>
        obtain ⟨o, ho, _⟩ := writer_some hw
        simp only []
        rw [h j (List.getElem?_eq_some_iff.1 ho).1]
    · rw [Array.getElem?_eq_none (by rw [ha.size]; omega), Array.getElem?_eq_none (by rw [hb.size]; omega)]
  cases a; cases b; simp_all
/-- Is the operation wanted? -/
def wantedBy (l : List Oper) (ρ : Operand → Value) (o : Oper) : Bool :=
  match o.guard with
  | none => true
  | some (g, want) => match (l[g]?).bind (·.dst) with
    | some d => (match ρ (.tmp d) with | .bool b => b == want | _ => false)
    | none => false
theorem wanted_eq {l : List Oper} {a : Act} (o : Oper) (hs : ∀ o' ∈ l, ∀ d, o'.dst = some d → d < a.tmps.size) : Region.wanted o (yielded l.toArray a.tmps) = wantedBy l a.eval o := by
  unfold Region.wanted wantedBy
  cases o.guard with
  | none => rfl
  | some gw =>
    obtain ⟨g, want⟩ := gw
    simp only [yielded]
    cases hg : l[g]? with
    | none => simp [hg]
    | some og =>
      cases hd : og.dst with
      | none => simp [hg, hd]
      | some d =>
        have hlt := hs og (List.mem_of_getElem? hg) d hd
        simp only [List.getElem?_toArray, hg, Option.bind_some, hd, Act.eval]
        rw [Array.getElem?_eq_getElem hlt, show a.tmps.getD d undef = a.tmps[d] by simp [hlt]]
        cases a.tmps[d] <;> simp
/-- What is owed of one operation. -/
def Ob (P : Program) (l : List Oper) (a0 : Act) (w0 : World) (ext : World → World → Prop) (rs : List Fact) (o : Oper) (r : Fact) : Prop :=
  ∀ (ρ : Operand → Value) (w : World), ext w0 w → (∀ t, writer l t = none → ρ (.tmp t) = a0.eval (.tmp t)) → (∀ v, ρ (.const v) = v) → (∀ g, ρ (.global g) = .pointer (some ⟨g, 0, none⟩)) → (∀ f, ρ (.func f) = .func (.func f) #[] #[]) →
    (∀ e ∈ o.after, Region.binds .any e = true → ∀ oj d rj, l[e.on]? = some oj → oj.dst = some d → rs[e.on]? = some rj → rj (ρ (.tmp d)) w) →
    (wantedBy l ρ o = true → Gives P o ρ w fun v w' => ext w w' ∧ r v w') ∧ (wantedBy l ρ o = false → r undef w)
def Obs (P : Program) (l : List Oper) (a0 : Act) (w0 : World) (ext : World → World → Prop) (rs : List Fact) : List Oper → List Fact → Prop
  | o :: os, r :: rs' => Ob P l a0 w0 ext rs o r ∧ Obs P l a0 w0 ext rs os rs'
  | _, _ => True
theorem obs_get {P : Program} {l : List Oper} {a0 : Act} {w0 : World} {ext : World → World → Prop} {rs : List Fact} : ∀ {os : List Oper} {fs : List Fact}, Obs P l a0 w0 ext rs os fs → ∀ {i : Nat} {o : Oper} {r : Fact}, os[i]? = some o → fs[i]? = some r → Ob P l a0 w0 ext rs o r
  | [], _, _, _, _, _, h, _ => by simp at h
  | _ :: _, [], _, _, _, _, _, h => by simp at h
  | _ :: _, _ :: _, h, 0, _, _, h1, h2 => by
    simp at h1 h2
    subst h1 h2
    exact h.1
  | _ :: _, _ :: _, h, i + 1, _, _, h1, h2 => obs_get h.2 (i := i) (by simpa using h1) (by simpa using h2)
theorem countP_less {α : Type} {p q : α → Bool} : ∀ {L : List α} {x : α}, (∀ y ∈ L, q y = true → p y = true) → x ∈ L → p x = true → ¬ q x = true → L.countP q < L.countP p
  | y :: L, x, h, hx, hp, hq => by
    have mono : L.countP q ≤ L.countP p := List.countP_mono_left fun z hz => h z (by simp [hz])
    rcases List.mem_cons.1 hx with rfl | hx
    · rw [List.countP_cons_of_pos hp, List.countP_cons_of_neg hq]; omega
    · have ih := countP_less (L := L) (fun z hz => h z (by simp [hz])) hx hp hq
      rw [List.countP_cons, List.countP_cons]
      have := h y (by simp)
      cases hqy : q y with
      | true => rw [this hqy]; simp; omega
      | false => simp; omega
/-- Each waits for earlier ones alone; from the n-th on each waits for all that are earlier. -/
def ordB (l : List Oper) (n : Nat) : Bool := (List.range l.length).all fun i => match l[i]? with
  | none => true
  | some o => (o.after.all fun e => !Region.binds .any e || decide (e.on < i)) && (decide (i < n) || (List.range i).all fun j => o.after.any fun e => Region.binds .any e && e.on == j)
theorem ordB_at {l : List Oper} {n : Nat} (h : ordB l n = true) {i : Nat} {o : Oper} (ho : l[i]? = some o) :
    (∀ e ∈ o.after, Region.binds .any e = true → e.on < i) ∧ (n ≤ i → ∀ j, j < i → ∃ e ∈ o.after, Region.binds .any e = true ∧ e.on = j) := by
  unfold ordB at h
  simp only [List.all_eq_true, List.mem_range] at h
  have h1 := h i (List.getElem?_eq_some_iff.1 ho).1
  rw [ho] at h1
  simp only [Bool.and_eq_true, Bool.or_eq_true, decide_eq_true_eq, List.all_eq_true, List.mem_range] at h1
  refine ⟨fun e he hb => ?_, fun hn j hj => ?_⟩
  · have h2 := Array.all_eq_true_iff_forall_mem.1 h1.1 e he
    simpa [hb] using h2
  · have h2 := (h1.2.resolve_left (by omega)) j hj
    obtain ⟨e, he, hb⟩ := Array.any_eq_true'.1 h2
    simp only [Bool.and_eq_true, beq_iff_eq] at hb
    exact ⟨e, he, hb.1, hb.2⟩
theorem tail_any {P : Program} {Q : Exit → Act → World → Prop} {l : List Oper} {n : Nat} (hO : ordB l n = true) : ∀ (rest : List Oper) (k : Nat) (listed : Array Bool) (a : Act) (w : World) (fuel : Nat), (∀ j, rest[j]? = l[k + j]?) → listed.size = l.length → n ≤ k → k + rest.length = l.length →
    (∀ j, j < l.length → listed.getD j false = decide (j < k)) → rest.length ≤ fuel → wpList P l.toArray Q rest a w → wpAny P .any l.toArray Q fuel listed a w
  | [], k, listed, a, w, fuel, _, hs, _, hk, hl, _, h => by
    refine wpAny_done ?_ h fuel
    cases hr : Region.ready .any l.toArray listed with
    | nil => rfl
    | cons j js =>
      exfalso
      have hm : j ∈ Region.ready .any l.toArray listed := by rw [hr]; simp
      obtain ⟨hun, o, ho, _⟩ := mem_ready.1 hm
      rw [List.getElem?_toArray] at ho
      have hjl := (List.getElem?_eq_some_iff.1 ho).1
      have h1 := hl j hjl
      have hlt : j < listed.size := by rw [hs]; exact hjl
      have hjk : j < k := by simp at hk; omega
      simp [hlt] at hun h1
      rw [hun] at h1
      simp at h1
      omega
  | o :: rest, k, listed, a, w, 0, _, _, _, _, _, hf, _ => by simp at hf
  | o :: rest, k, listed, a, w, fuel + 1, hr, hs, hn, hk, hl, hf, h => by
    have ho : l[k]? = some o := by simpa using (hr 0).symm
    have hkl : k < l.length := (List.getElem?_eq_some_iff.1 ho).1
    have only : ∀ i ∈ Region.ready .any l.toArray listed, i = k := fun i hi => by
      obtain ⟨hun, oi, hoi, haf⟩ := mem_ready.1 hi
      rw [List.getElem?_toArray] at hoi
      have hil := (List.getElem?_eq_some_iff.1 hoi).1
      have hlt : i < listed.size := by rw [hs]; exact hil
      have h1 := hl i hil
      have hik : ¬ i < k := by
        intro hik
        simp [hlt] at hun h1
        rw [hun] at h1
        simp at h1
        omega
      rcases Nat.lt_or_eq_of_le (Nat.le_of_not_lt hik) with hlt' | he
      · exfalso
        obtain ⟨e, he, hb, hon⟩ := (ordB_at hO hoi).2 (by omega) k hlt'
        have h2 := haf e he hb
        rw [hon, hl k hkl] at h2
        simp at h2
      · exact he.symm
    have isr : k ∈ Region.ready .any l.toArray listed := mem_ready.2 ⟨by
      have h1 := hl k hkl
      have hlt : k < listed.size := by rw [hs]; exact hkl
      simp [hlt] at h1 ⊢
      exact h1, o, by rw [List.getElem?_toArray]; exact ho, fun e he hb => by
        have h2 := (ordB_at hO ho).1 e he hb
        rw [hl e.on (by omega)]
        simpa using h2⟩
    refine ⟨fun h0 => (by rw [h0] at isr; cases isr), fun i hi => ?_⟩
    rw [only i hi]
    have hnext : ∀ a' w', wpList P l.toArray Q rest a' w' → wpAny P .any l.toArray Q fuel (listed.setIfInBounds k true) a' w' := fun a' w' h' =>
      tail_any hO rest (k + 1) _ a' w' fuel (fun j => by have := hr (j + 1); simpa [Nat.add_assoc, Nat.add_comm 1 j] using this) (by simpa using hs) (by omega) (by simp at hk; omega) (fun j hj => by
        by_cases hjk : j = k
        · subst hjk
          have : j < listed.size := by omega
          simp [this]
        · rw [getD_set_ne false (Ne.symm hjk), hl j hj]
          rw [Bool.eq_iff_iff]
          simp
          omega) (by simpa using hf) h'
    unfold wpOp
    simp only [List.getElem?_toArray, ho]
    change (if Region.wanted o (yielded l.toArray a.tmps) = true then Oper.wp P o a w (wpList P l.toArray Q rest) Q ∨ (o.asks P a w ∧ LetsOut Q) else wpList P l.toArray Q rest (a.put o.dst undef) w) at h
    split
    · rename_i hw
      rw [if_pos hw] at h
      exact h.imp (Oper.wp_mono hnext) id
    · rename_i hw
      rw [if_neg hw] at h
      exact hnext _ _ h
structure Inv (l : List Oper) (n : Nat) (a0 : Act) (w0 : World) (ext : World → World → Prop) (rs : List Fact) (listed : Array Bool) (a : Act) (w : World) : Prop where
  size : listed.size = l.length
  ext : ext w0 w
  low : ∀ j, n ≤ j → listed.getD j false = false
  ex : ∃ vs, Slots l a0 a listed vs ∧ ∀ (j : Nat) (r : Fact), rs[j]? = some r → listed.getD j false = true → r (vs j) w
theorem region_mono {P : Program} {id : Nat} {Q : Exit → Act → World → Prop} {a0 : Act} {w0 : World} {l : List Oper} (ext : World → World → Prop) (rs : List Fact) (hm : P.follows .mixedOrders = true) (hB : (monoB l a0.tmps.size && ordB l rs.length) = true)
    (href : ∀ w, ext w w) (htr : ∀ a b c, ext a b → ext b c → ext a c) (hl : rs.length ≤ l.length) (hst : ∀ r ∈ rs, ∀ v w w', ext w0.drew w → ext w w' → r v w → r v w')
    (hobs : Obs P l a0 w0.drew ext rs l rs) (fin : ∀ (vs : Nat → Value) (w : World), ext w0.drew w → (∀ (k : Nat) (r : Fact), rs[k]? = some r → r (vs k) w) → wpList P l.toArray Q (restL l rs) (putsL l rs 0 vs a0) w) :
    (Code.region id l.toArray true).wp P Q a0 w0 := by
  simp only [Bool.and_eq_true] at hB
  obtain ⟨hB, hO⟩ := hB
  obtain ⟨n, hn⟩ : ∃ n, rs.length = n := ⟨_, rfl⟩
  rw [hn] at hO
  refine wp_region_any hm ?_
  have full : ∀ (fuel : Nat) (listed : Array Bool) (a : Act) (w : World), Inv l n a0 w0.drew ext rs listed a w → (∀ j, j < n → listed.getD j false = true) → l.length - n ≤ fuel → wpAny P .any l.toArray Q fuel listed a w := fun fuel listed a w hi hall hf => by
    obtain ⟨vs, hsl, hrs⟩ := hi.ex
    have h0 : Slots l a0 a0 (Array.replicate l.length false) vs := ⟨rfl, rfl, fun t _ => by
      cases writer l t with
      | none => rfl
      | some j =>
        have : (Array.replicate l.length false).getD j false = false := by
          by_cases hj : j < l.length <;> simp [hj]
        simp only [this]; rfl⟩
    have hpat : ∀ j, listed.getD j false = decide (j < n) := fun j => by
      by_cases hj : j < n
      · rw [hall j hj]; simp [hj]
      · rw [hi.low j (by omega)]; simp [hj]
    obtain ⟨listed', h1, h2⟩ := putsL_slots vs l a0 hB l rs 0 a0 _ (fun j => by simp) (by simp) hl (by simp) h0
    rw [hsl.eq h2 (fun j hj => by
      rw [h1 j, hpat j]
      have : (Array.replicate l.length false).getD j false = false := by simp [hj]
      rw [this, hn]
      simp)]
    have hfin := fin vs w hi.ext (fun k r hk => hrs k r hk (hall k (by have := (List.getElem?_eq_some_iff.1 hk).1; omega)))
    rw [restL_eq l rs hl, hn] at hfin
    exact tail_any hO (l.drop n) n listed _ w fuel (fun j => by simp) hi.size (Nat.le_refl _) (by simp; omega) (fun j _ => hpat j) (by simpa using hf) hfin
  have step : ∀ (listed : Array Bool) (a : Act) (w : World) (K : Act → World → Prop), Inv l n a0 w0.drew ext rs listed a w → ∀ i ∈ Region.ready .any l.toArray listed, i < n → (∀ a' w', Inv l n a0 w0.drew ext rs (listed.setIfInBounds i true) a' w' → K a' w') → wpOp P l.toArray Q i K a w := fun listed a w K hi i hri hin hK => by
    obtain ⟨vs, hsl, hrs⟩ := hi.ex
    obtain ⟨hun, o, ho, haf⟩ := mem_ready.1 hri
    rw [List.getElem?_toArray] at ho
    have hil : i < l.length := (List.getElem?_eq_some_iff.1 ho).1
    have his : i < listed.size := by rw [hi.size]; exact hil
    obtain ⟨r, hr⟩ : ∃ r, rs[i]? = some r := ⟨rs[i]'(by omega), List.getElem?_eq_getElem _⟩
    have hslot : ∀ o' ∈ l, ∀ d, o'.dst = some d → d < a.tmps.size := fun o' ho' d hd => by
      obtain ⟨j, hj⟩ := List.mem_iff_getElem?.1 ho'
      rw [hsl.size]
      exact ((monoB_at hB hj).1 d hd).2
    have next : ∀ v w', ext w w' → r v w' → Inv l n a0 w0.drew ext rs (listed.setIfInBounds i true) (a.put o.dst v) w' := fun v w' he hv => by
      refine ⟨by simpa using hi.size, htr _ _ _ hi.ext he, fun j hj => by rw [getD_set_ne false (by omega)]; exact hi.low j hj, updv vs i v, hsl.put hB ho his v, fun j rj hj hlj => ?_⟩
      by_cases hji : j = i
      · subst hji
        rw [hr] at hj
        cases hj
        simpa [updv] using hv
      · rw [getD_set_ne false (Ne.symm hji)] at hlj
        have := hst rj (List.mem_of_getElem? hj) (vs j) w w' hi.ext he (hrs j rj hj hlj)
        simpa [updv, hji] using this
    have hob := obs_get hobs ho hr a.eval w hi.ext (fun t ht => by
      by_cases hlt : t < a0.tmps.size
      · have := hsl.slot t hlt
        rw [ht] at this
        simp only [Act.eval]
        simp only [Array.getD_eq_getD_getElem?, this]
      · simp only [Act.eval]
        rw [Array.getD_eq_getD_getElem?, Array.getD_eq_getD_getElem?, Array.getElem?_eq_none (by rw [hsl.size]; exact Nat.le_of_not_lt hlt), Array.getElem?_eq_none (Nat.le_of_not_lt hlt)]) (fun _ => rfl) (fun _ => rfl) (fun _ => rfl)
      (fun e he hb oj d rj hoj hd hrj => by
        have hlj := haf e he hb
        have hdw := (monoB_at hB hoj).1 d hd
        have := hsl.slot d hdw.2
        rw [hdw.1] at this
        simp only [hlj, if_true] at this
        have hv : a.eval (.tmp d) = vs e.on := by simp only [Act.eval, Array.getD_eq_getD_getElem?, this, Option.getD_some]
        rw [hv]
        exact hrs e.on rj hrj hlj)
    unfold wpOp
    simp only [List.getElem?_toArray, ho]
    rw [wanted_eq o hslot]
    cases hw : wantedBy l a.eval o with
    | true =>
      simp only [if_true]
      exact .inl (wp_of_gives (hob.1 hw) fun v w' ⟨he, hv⟩ => hK _ _ (next v w' he hv))
    | false =>
      simp only [Bool.false_eq_true, if_false]
      exact hK _ _ (next undef w (href w) (hob.2 hw))
  have all : ∀ (fuel : Nat) (listed : Array Bool) (a : Act) (w : World), Inv l n a0 w0.drew ext rs listed a w → (List.range n).countP (fun j => !listed.getD j false) + (l.length - n) ≤ fuel → wpAny P .any l.toArray Q fuel listed a w := by
    intro fuel
    induction fuel with
    | zero =>
      intro listed a w hi hc
      exact full 0 listed a w hi (fun j hj => by
        have := List.countP_eq_zero.1 (show (List.range n).countP (fun j => !listed.getD j false) = 0 by omega) j (List.mem_range.2 hj)
        simpa using this) (by omega)
    | succ fuel ih =>
      intro listed a w hi hc
      by_cases hall : ∀ j, j < n → listed.getD j false = true
      · exact full _ listed a w hi hall (by omega)
      · have low : ∀ i ∈ Region.ready .any l.toArray listed, i < n := fun i hri => by
          obtain ⟨hun, o, ho, haf⟩ := mem_ready.1 hri
          rw [List.getElem?_toArray] at ho
          refine Nat.lt_of_not_le fun hni => hall fun j hj => ?_
          obtain ⟨e, he, hb, hon⟩ := (ordB_at hO ho).2 hni j (by omega)
          rw [← hon]
          exact haf e he hb
        refine ⟨fun h0 => ?_, fun i hri => step listed a w _ hi i hri (low i hri) fun a' w' hi' => ih _ a' w' hi' ?_⟩
        · exfalso
          refine hall ?_
          have : ∀ m j, j < m → j < n → listed.getD j false = true := by
            intro m
            induction m with
            | zero => intro j hj; omega
            | succ m ihm =>
              intro j hj hjn
              cases hu : listed.getD j false with
              | true => rfl
              | false =>
                exfalso
                have hjl : j < l.length := by omega
                have hm : j ∈ Region.ready .any l.toArray listed := mem_ready.2 ⟨by
                  have hlt : j < listed.size := by rw [hi.size]; exact hjl
                  simpa [hlt] using hu, l[j], by simp [hjl], fun e he hb => by
                    have := (ordB_at hO (List.getElem?_eq_getElem hjl)).1 e he hb
                    exact ihm e.on (by omega) (by omega)⟩
                rw [h0] at hm
                cases hm
          exact fun j hj => this (j + 1) j (by omega) hj
        · obtain ⟨hun, o, ho, _⟩ := mem_ready.1 hri
          rw [List.getElem?_toArray] at ho
          have hil : i < l.length := (List.getElem?_eq_some_iff.1 ho).1
          have his : i < listed.size := by rw [hi.size]; exact hil
          have hlt : (List.range n).countP (fun j => !(listed.setIfInBounds i true).getD j false) < (List.range n).countP (fun j => !listed.getD j false) := by
            refine countP_less (x := i) (fun j _ hj => ?_) (List.mem_range.2 (low i hri)) (by simpa [his] using hun) (by simp [his])
            by_cases hji : j = i
            · subst hji; simp [his] at hj
            · rwa [getD_set_ne false (Ne.symm hji)] at hj
          omega
  refine all _ _ a0 _ ⟨by simp, href _, fun j _ => ?_, fun _ => undef, ⟨rfl, rfl, fun t _ => ?_⟩, fun j r _ hj => ?_⟩ ?_
  · by_cases hj : j < l.length <;> simp [hj]
  · cases writer l t with
    | none => rfl
    | some j =>
      have : (Array.replicate l.toArray.size false).getD j false = false := by
        by_cases hj : j < l.length <;> simp [hj]
      simp only [this]; rfl
  · have : (Array.replicate l.toArray.size false).getD j false = false := by
      by_cases hj : j < l.length <;> simp [hj]
    rw [this] at hj
    cases hj
  · have : (List.range n).countP (fun j => !(Array.replicate l.toArray.size false).getD j false) ≤ n := by
      refine Nat.le_trans List.countP_le_length ?_
      simp
    simp only [List.size_toArray] at this ⊢
    omega
theorem gives_move {P : Program} {o : Oper} {ρ : Operand → Value} {w : World} {Φ : Value → World → Prop} {x : Operand} (ho : o.op = .move x) (k : Φ (ρ x) w) : Gives P o ρ w Φ :=
  Gives.value (v := ρ x) (w' := w) (by simp [execOp, ho]) k
theorem gives_call {P : Program} {o : Oper} {ρ : Operand → Value} {w : World} {Φ : Value → World → Prop} {f : FuncId} {xs : Array Operand} {ats : Array TypeId} {args : Array Value} {fn : Func} {c : Code}
    (ho : o.op = .call { callee := .value (.func f), args := xs, argTypes := ats }) (hf : ∀ f, ρ (.func f) = .func (.func f) #[] #[]) (hfn : P.funcs[f]? = some fn) (hb : fn.body = some c) (hn : (fn.name == "runtime.NumGoroutine") = false)
    (ha : xs.map ρ = args) (k : Calls P f args w fun e w'' => ∃ v, e = .returned v ∧ Φ v w'') : Gives P o ρ w Φ := by
  refine Gives.enter ?_ k
  simp [execOp, ho, resolve, hf f, Deferred.ofValue, invoke, callFunc, hfn, hb, ha]
  simpa using hn
theorem gives_call_value {P : Program} {o : Oper} {ρ : Operand → Value} {w : World} {Φ : Value → World → Prop} {f : FuncId} {t : Tmp} {xs : Array Operand} {ats : Array TypeId} {args caps : Array Value} {fn : Func} {c : Code}
    (ho : o.op = .call { callee := .value (.tmp t), args := xs, argTypes := ats }) (hf : ρ (.tmp t) = .func (.func f) #[] caps) (hfn : P.funcs[f]? = some fn) (hb : fn.body = some c) (hn : (fn.name == "runtime.NumGoroutine") = false)
    (ha : xs.map ρ ++ caps = args) (k : Calls P f args w fun e w'' => ∃ v, e = .returned v ∧ Φ v w'') : Gives P o ρ w Φ := by
  refine Gives.enter ?_ k
  simp [execOp, ho, resolve, hf, Deferred.ofValue, invoke, callFunc, hfn, hb, ha]
  simpa using hn
theorem wantedBy_true {l : List Oper} {ρ : Operand → Value} {o og : Oper} {g : Nat} {want : Bool} {d : Tmp} (h1 : o.guard = some (g, want)) (h2 : l[g]? = some og) (h3 : og.dst = some d) (h4 : ρ (.tmp d) = .bool want) : wantedBy l ρ o = true := by
  unfold wantedBy; simp [h1, h2, h3, h4]
theorem wantedBy_false {l : List Oper} {ρ : Operand → Value} {o og : Oper} {g : Nat} {want : Bool} {d : Tmp} (h1 : o.guard = some (g, want)) (h2 : l[g]? = some og) (h3 : og.dst = some d) (h4 : ρ (.tmp d) = .bool (!want)) : wantedBy l ρ o = false := by
  unfold wantedBy; simp [h1, h2, h3, h4]
end Go.Proofs.Ytkndnlhlglgmfaa
namespace Go.Proofs.Ytkndnlhlglgmfaa
/-- A fence that holds all. -/
structure WideF (F : Fence) : Prop where
  fn : ∀ f, F.fn f
  depth : F.depth = none
  calls : ∀ (n : Nat) (P : Program) (f : FuncId) (args : Array Value) (w : World) (R : Ending → World → Prop), Calls P f args w R → CallsIn F n P f args w R
theorem wideF : WideF Fence.wide := ⟨fun _ => trivial, rfl, fun _ _ _ _ _ _ h => callsIn_wide.2 h⟩
theorem WideF.round {F : Fence} (h : WideF F) (l : Nat) : WideF (F.inRound l) := ⟨h.fn, h.depth, fun n P f args w R k => CallsIn.inRound l (h.calls n P f args w R k)⟩
theorem wpIn_of_gives {F : Fence} {n : Nat} (hF : WideF F) {P : Program} {o : Oper} {a : Act} {w : World} {Φ : Value → World → Prop} {K : Act → World → Prop} {Q : Exit → Act → World → Prop} (hd : ∀ c, o.op ≠ .defer c) (h : Gives P o a.eval w Φ) (hK : ∀ v w', Φ v w' → K (a.put o.dst v) w') : o.wpIn F n P a w K Q := by
  unfold Gives at h
  refine ⟨fun f _ => hF.fn f, ?_⟩
  rw [Oper.semAt_plain F _ _ hd]
  generalize (execOp a.eval o).run P w = r at *
  cases r with
  | ok x w' =>
    cases x <;> simp only at h <;> simp only [Oper.uponIn]
    case value => exact hK _ _ h
    case skip => exact hK _ _ h
    case enter => exact ⟨fun hs => (by rw [hF.depth] at hs; cases hs), (hF.calls _ _ _ _ _ _ h).mono fun e w'' ⟨v, he, hv⟩ => by subst he; exact hK _ _ hv⟩
  | halt x w' => simp only at h
theorem wpListIn_gives {F : Fence} {n : Nat} (hF : WideF F) {P : Program} {ops : Array Oper} {rest : List Oper} {o : Oper} {a : Act} {w : World} {Φ : Value → World → Prop} {Q : Exit → Act → World → Prop} (hg : o.guard = none) (hd : ∀ c, o.op ≠ .defer c) (h : Gives P o a.eval w Φ)
    (hK : ∀ v w', Φ v w' → wpListIn F n P ops Q rest (a.put o.dst v) w') : wpListIn F n P ops Q (o :: rest) a w :=
  wpListIn_plain hg fun _ hk => wpIn_of_gives hF hd h fun v w' hv => hk _ _ (hK v w' hv)
theorem wpAnyIn_nil {F : Fence} {n : Nat} {P : Program} {ops : Array Oper} {md : Region.Mode} {Q : Exit → Act → World → Prop} {listed : Array Bool} {a : Act} {w : World} (hr : Region.ready md ops listed = []) (h : Q .normal a w) : ∀ fuel, wpAnyIn F n P md ops Q fuel listed a w
  | 0 => ⟨hr, h⟩
  | _ + 1 => ⟨fun _ => h, by rw [hr]; simp⟩
def noDefer (l : List Oper) : Bool := l.all fun o => match o.op with | .defer _ => false | _ => true
theorem noDefer_spec {l : List Oper} (h : noDefer l = true) : ∀ o ∈ l, ∀ c, o.op ≠ .defer c := fun o ho c hc => by
  have := List.all_eq_true.1 h o ho
  simp [hc] at this
theorem tail_anyIn {F : Fence} {m : Nat} (hF : WideF F) {P : Program} {Q : Exit → Act → World → Prop} {l : List Oper} {n : Nat} (hO : ordB l n = true) : ∀ (rest : List Oper) (k : Nat) (listed : Array Bool) (a : Act) (w : World) (fuel : Nat), (∀ j, rest[j]? = l[k + j]?) → listed.size = l.length → n ≤ k → k + rest.length = l.length →
    (∀ j, j < l.length → listed.getD j false = decide (j < k)) → rest.length ≤ fuel → wpListIn F m P l.toArray Q rest a w → wpAnyIn F m P .any l.toArray Q fuel listed a w
  | [], k, listed, a, w, fuel, _, hs, _, hk, hl, _, h => by
    refine wpAnyIn_nil ?_ h fuel
    cases hr : Region.ready .any l.toArray listed with
    | nil => rfl
    | cons j js =>
      exfalso
      have hm : j ∈ Region.ready .any l.toArray listed := by rw [hr]; simp
      obtain ⟨hun, o, ho, _⟩ := mem_ready.1 hm
      rw [List.getElem?_toArray] at ho
      have hjl := (List.getElem?_eq_some_iff.1 ho).1
      have h1 := hl j hjl
      have hlt : j < listed.size := by rw [hs]; exact hjl
      have hjk : j < k := by simp at hk; omega
      simp [hlt] at hun h1
      rw [hun] at h1
      simp at h1
      omega
  | o :: rest, k, listed, a, w, 0, _, _, _, _, _, hf, _ => by simp at hf
  | o :: rest, k, listed, a, w, fuel + 1, hr, hs, hn, hk, hl, hf, h => by
    have ho : l[k]? = some o := by simpa using (hr 0).symm
    have hkl : k < l.length := (List.getElem?_eq_some_iff.1 ho).1
    have only : ∀ i ∈ Region.ready .any l.toArray listed, i = k := fun i hi => by
      obtain ⟨hun, oi, hoi, haf⟩ := mem_ready.1 hi
      rw [List.getElem?_toArray] at hoi
      have hil := (List.getElem?_eq_some_iff.1 hoi).1
      have hlt : i < listed.size := by rw [hs]; exact hil
      have h1 := hl i hil
      have hik : ¬ i < k := by
        intro hik
        simp [hlt] at hun h1
        rw [hun] at h1
        simp at h1
        omega
      rcases Nat.lt_or_eq_of_le (Nat.le_of_not_lt hik) with hlt' | he
      · exfalso
        obtain ⟨e, he, hb, hon⟩ := (ordB_at hO hoi).2 (by omega) k hlt'
        have h2 := haf e he hb
        rw [hon, hl k hkl] at h2
        simp at h2
      · exact he.symm
    have isr : k ∈ Region.ready .any l.toArray listed := mem_ready.2 ⟨by
      have h1 := hl k hkl
      have hlt : k < listed.size := by rw [hs]; exact hkl
      simp [hlt] at h1 ⊢
      exact h1, o, by rw [List.getElem?_toArray]; exact ho, fun e he hb => by
        have h2 := (ordB_at hO ho).1 e he hb
        rw [hl e.on (by omega)]
        simpa using h2⟩
    refine ⟨fun h0 => (by rw [h0] at isr; cases isr), fun i hi => ?_⟩
    rw [only i hi]
    have hnext : ∀ a' w', wpListIn F m P l.toArray Q rest a' w' → wpAnyIn F m P .any l.toArray Q fuel (listed.setIfInBounds k true) a' w' := fun a' w' h' =>
      tail_anyIn hF hO rest (k + 1) _ a' w' fuel (fun j => by have := hr (j + 1); simpa [Nat.add_assoc, Nat.add_comm 1 j] using this) (by simpa using hs) (by omega) (by simp at hk; omega) (fun j hj => by
        by_cases hjk : j = k
        · subst hjk
          have : j < listed.size := by omega
          simp [this]
        · rw [getD_set_ne false (Ne.symm hjk), hl j hj]
          rw [Bool.eq_iff_iff]
          simp
          omega) (by simpa using hf) h'
    unfold wpOpIn
    simp only [List.getElem?_toArray, ho]
    change (if Region.wanted o (yielded l.toArray a.tmps) = true then Oper.wpIn F m P o a w (wpListIn F m P l.toArray Q rest) Q else (∀ f, o.about P w a.eval = some f → F.fn f) ∧ wpListIn F m P l.toArray Q rest (a.put o.dst undef) w) at h
    split
    · rename_i hw
      rw [if_pos hw] at h
      exact Oper.wpIn_mono hnext h
    · rename_i hw
      rw [if_neg hw] at h
      exact ⟨h.1, hnext _ _ h.2⟩
theorem region_monoIn {F : Fence} {m : Nat} (hF : WideF F) {P : Program} {id : Nat} {Q : Exit → Act → World → Prop} {a0 : Act} {w0 : World} {l : List Oper} (ext : World → World → Prop) (rs : List Fact) (hm : P.follows .mixedOrders = true) (hdB : noDefer l = true) (hB : (monoB l a0.tmps.size && ordB l rs.length) = true)
    (href : ∀ w, ext w w) (htr : ∀ a b c, ext a b → ext b c → ext a c) (hl : rs.length ≤ l.length) (hst : ∀ r ∈ rs, ∀ v w w', ext w0.drew w → ext w w' → r v w → r v w')
    (hobs : Obs P l a0 w0.drew ext rs l rs) (fin : ∀ (vs : Nat → Value) (w : World), ext w0.drew w → (∀ (k : Nat) (r : Fact), rs[k]? = some r → r (vs k) w) → wpListIn F m P l.toArray Q (restL l rs) (putsL l rs 0 vs a0) w) :
    (Code.region id l.toArray true).wpIn F m P Q a0 w0 := by
  simp only [Bool.and_eq_true] at hB
  obtain ⟨hB, hO⟩ := hB
  have hdef := noDefer_spec hdB
  obtain ⟨n, hn⟩ : ∃ n, rs.length = n := ⟨_, rfl⟩
  rw [hn] at hO
  refine wpIn_region_any hm ?_
  have full : ∀ (fuel : Nat) (listed : Array Bool) (a : Act) (w : World), Inv l n a0 w0.drew ext rs listed a w → (∀ j, j < n → listed.getD j false = true) → l.length - n ≤ fuel → wpAnyIn F m P .any l.toArray Q fuel listed a w := fun fuel listed a w hi hall hf => by
    obtain ⟨vs, hsl, hrs⟩ := hi.ex
    have h0 : Slots l a0 a0 (Array.replicate l.length false) vs := ⟨rfl, rfl, fun t _ => by
      cases writer l t with
      | none => rfl
      | some j =>
        have : (Array.replicate l.length false).getD j false = false := by
          by_cases hj : j < l.length <;> simp [hj]
        simp only [this]; rfl⟩
    have hpat : ∀ j, listed.getD j false = decide (j < n) := fun j => by
      by_cases hj : j < n
      · rw [hall j hj]; simp [hj]
      · rw [hi.low j (by omega)]; simp [hj]
    obtain ⟨listed', h1, h2⟩ := putsL_slots vs l a0 hB l rs 0 a0 _ (fun j => by simp) (by simp) hl (by simp) h0
    rw [hsl.eq h2 (fun j hj => by
      rw [h1 j, hpat j]
      have : (Array.replicate l.length false).getD j false = false := by simp [hj]
      rw [this, hn]
      simp)]
    have hfin := fin vs w hi.ext (fun k r hk => hrs k r hk (hall k (by have := (List.getElem?_eq_some_iff.1 hk).1; omega)))
    rw [restL_eq l rs hl, hn] at hfin
    exact tail_anyIn hF hO (l.drop n) n listed _ w fuel (fun j => by simp) hi.size (Nat.le_refl _) (by simp; omega) (fun j _ => hpat j) (by simpa using hf) hfin
  have step : ∀ (listed : Array Bool) (a : Act) (w : World) (K : Act → World → Prop), Inv l n a0 w0.drew ext rs listed a w → ∀ i ∈ Region.ready .any l.toArray listed, i < n → (∀ a' w', Inv l n a0 w0.drew ext rs (listed.setIfInBounds i true) a' w' → K a' w') → wpOpIn F m P l.toArray Q i K a w := fun listed a w K hi i hri hin hK => by
    obtain ⟨vs, hsl, hrs⟩ := hi.ex
    obtain ⟨hun, o, ho, haf⟩ := mem_ready.1 hri
    rw [List.getElem?_toArray] at ho
    have hil : i < l.length := (List.getElem?_eq_some_iff.1 ho).1
    have his : i < listed.size := by rw [hi.size]; exact hil
    obtain ⟨r, hr⟩ : ∃ r, rs[i]? = some r := ⟨rs[i]'(by omega), List.getElem?_eq_getElem _⟩
    have hslot : ∀ o' ∈ l, ∀ d, o'.dst = some d → d < a.tmps.size := fun o' ho' d hd => by
      obtain ⟨j, hj⟩ := List.mem_iff_getElem?.1 ho'
      rw [hsl.size]
      exact ((monoB_at hB hj).1 d hd).2
    have next : ∀ v w', ext w w' → r v w' → Inv l n a0 w0.drew ext rs (listed.setIfInBounds i true) (a.put o.dst v) w' := fun v w' he hv => by
      refine ⟨by simpa using hi.size, htr _ _ _ hi.ext he, fun j hj => by rw [getD_set_ne false (by omega)]; exact hi.low j hj, updv vs i v, hsl.put hB ho his v, fun j rj hj hlj => ?_⟩
      by_cases hji : j = i
      · subst hji
        rw [hr] at hj
        cases hj
        simpa [updv] using hv
      · rw [getD_set_ne false (Ne.symm hji)] at hlj
        have := hst rj (List.mem_of_getElem? hj) (vs j) w w' hi.ext he (hrs j rj hj hlj)
        simpa [updv, hji] using this
    have hob := obs_get hobs ho hr a.eval w hi.ext (fun t ht => by
      by_cases hlt : t < a0.tmps.size
      · have := hsl.slot t hlt
        rw [ht] at this
        simp only [Act.eval]
        simp only [Array.getD_eq_getD_getElem?, this]
      · simp only [Act.eval]
        rw [Array.getD_eq_getD_getElem?, Array.getD_eq_getD_getElem?, Array.getElem?_eq_none (by rw [hsl.size]; exact Nat.le_of_not_lt hlt), Array.getElem?_eq_none (Nat.le_of_not_lt hlt)]) (fun _ => rfl) (fun _ => rfl) (fun _ => rfl)
      (fun e he hb oj d rj hoj hd hrj => by
        have hlj := haf e he hb
        have hdw := (monoB_at hB hoj).1 d hd
        have := hsl.slot d hdw.2
        rw [hdw.1] at this
        simp only [hlj, if_true] at this
        have hv : a.eval (.tmp d) = vs e.on := by simp only [Act.eval, Array.getD_eq_getD_getElem?, this, Option.getD_some]
        rw [hv]
        exact hrs e.on rj hrj hlj)
    unfold wpOpIn
    simp only [List.getElem?_toArray, ho]
    rw [wanted_eq o hslot]
    cases hw : wantedBy l a.eval o with
    | true =>
      simp only [if_true]
      exact wpIn_of_gives hF (hdef o (List.mem_of_getElem? ho)) (hob.1 hw) fun v w' ⟨he, hv⟩ => hK _ _ (next v w' he hv)
    | false =>
      simp only [Bool.false_eq_true, if_false]
      exact ⟨fun f _ => hF.fn f, hK _ _ (next undef w (href w) (hob.2 hw))⟩
  have all : ∀ (fuel : Nat) (listed : Array Bool) (a : Act) (w : World), Inv l n a0 w0.drew ext rs listed a w → (List.range n).countP (fun j => !listed.getD j false) + (l.length - n) ≤ fuel → wpAnyIn F m P .any l.toArray Q fuel listed a w := by
    intro fuel
    induction fuel with
    | zero =>
      intro listed a w hi hc
      exact full 0 listed a w hi (fun j hj => by
        have := List.countP_eq_zero.1 (show (List.range n).countP (fun j => !listed.getD j false) = 0 by omega) j (List.mem_range.2 hj)
        simpa using this) (by omega)
    | succ fuel ih =>
      intro listed a w hi hc
      by_cases hall : ∀ j, j < n → listed.getD j false = true
      · exact full _ listed a w hi hall (by omega)
      · have low : ∀ i ∈ Region.ready .any l.toArray listed, i < n := fun i hri => by
          obtain ⟨hun, o, ho, haf⟩ := mem_ready.1 hri
          rw [List.getElem?_toArray] at ho
          refine Nat.lt_of_not_le fun hni => hall fun j hj => ?_
          obtain ⟨e, he, hb, hon⟩ := (ordB_at hO ho).2 hni j (by omega)
          rw [← hon]
          exact haf e he hb
        refine ⟨fun h0 => ?_, fun i hri => step listed a w _ hi i hri (low i hri) fun a' w' hi' => ih _ a' w' hi' ?_⟩
        · exfalso
          refine hall ?_
          have : ∀ m j, j < m → j < n → listed.getD j false = true := by
            intro m
            induction m with
            | zero => intro j hj; omega
            | succ m ihm =>
              intro j hj hjn
              cases hu : listed.getD j false with
              | true => rfl
              | false =>
                exfalso
                have hjl : j < l.length := by omega
                have hm : j ∈ Region.ready .any l.toArray listed := mem_ready.2 ⟨by
                  have hlt : j < listed.size := by rw [hi.size]; exact hjl
                  simpa [hlt] using hu, l[j], by simp [hjl], fun e he hb => by
                    have := (ordB_at hO (List.getElem?_eq_getElem hjl)).1 e he hb
                    exact ihm e.on (by omega) (by omega)⟩
                rw [h0] at hm
                cases hm
          exact fun j hj => this (j + 1) j (by omega) hj
        · obtain ⟨hun, o, ho, _⟩ := mem_ready.1 hri
          rw [List.getElem?_toArray] at ho
          have hil : i < l.length := (List.getElem?_eq_some_iff.1 ho).1
          have his : i < listed.size := by rw [hi.size]; exact hil
          have hlt : (List.range n).countP (fun j => !(listed.setIfInBounds i true).getD j false) < (List.range n).countP (fun j => !listed.getD j false) := by
            refine countP_less (x := i) (fun j _ hj => ?_) (List.mem_range.2 (low i hri)) (by simpa [his] using hun) (by simp [his])
            by_cases hji : j = i
            · subst hji; simp [his] at hj
            · rwa [getD_set_ne false (Ne.symm hji)] at hj
          omega
  refine all _ _ a0 _ ⟨by simp, href _, fun j _ => ?_, fun _ => undef, ⟨rfl, rfl, fun t _ => ?_⟩, fun j r _ hj => ?_⟩ ?_
  · by_cases hj : j < l.length <;> simp [hj]
  · cases writer l t with
    | none => rfl
    | some j =>
      have : (Array.replicate l.toArray.size false).getD j false = false := by
        by_cases hj : j < l.length <;> simp [hj]
      simp only [this]; rfl
  · have : (Array.replicate l.toArray.size false).getD j false = false := by
      by_cases hj : j < l.length <;> simp [hj]
    rw [this] at hj
    cases hj
  · have : (List.range n).countP (fun j => !(Array.replicate l.toArray.size false).getD j false) ≤ n := by
      refine Nat.le_trans List.countP_le_length ?_
      simp
    simp only [List.size_toArray] at this ⊢
    omega
end Go.Proofs.Ytkndnlhlglgmfaa
namespace Go.Proofs.Ytkndnlhlglgmfaa
theorem gv_load_row {P : Program} {o : Oper} {ρ : Operand → Value} {w : World} {Φ : Value → World → Prop} {x : Operand} {ty : TypeId} {g : Nat} {cs : Array Value} {t : TypeId} {fr : Nat × Nat} {d : TypeDesc} (ho : o.op = .load ty x) (hx : ρ x = .pointer (some ⟨g, 0, none⟩))
    (hg : w.heap[g]? = some (.cells cs t fr)) (hu : P.underlying ty = some d) (hd : (match d with | .struct _ | .array _ _ => true | _ => false) = true) (hi : (P.info? ty).map (·.size) = some cs.size) (k : Φ (.agg cs) w) : Gives P o ρ w Φ := by
  refine Gives.value (v := .agg cs) (w' := w) ?_ k
  unfold execOp
  simp only [ho, hx, Instr.loadAt, Instr.sureAddr, Sem.run_bind, Sem.run_pure, Result.andThen_ok, run_loadVar_row w g t ty cs fr d hg hu hd hi]
theorem gv_app {P : Program} {o : Oper} {ρ : Operand → Value} {w w' : World} {Φ : Value → World → Prop} {s x : Operand} {ats : Array TypeId} {ty : TypeId} {v xv v' : Value} (ho : o.op = .call { callee := .builtin .append, args := #[s, x], argTypes := ats }) (hty : o.type = ty)
    (hs : ρ s = v) (hx : ρ x = xv) (hrun : (Builtin.append_ ats ty #[v, xv]).run P w = .ok v' w') (k : Φ v' w') : Gives P o ρ w Φ := by
  refine Gives.value (v := v') (w' := w') ?_ k
  subst hty
  unfold execOp
  simp only [ho, resolve, invoke, builtin, Sem.run_bind, Sem.run_pure, Result.andThen_ok, List.map_toArray, List.map_cons, List.map_nil, hs, hx, hrun]
theorem gv_load_mid {P : Program} {o : Oper} {ρ : Operand → Value} {w : World} {Φ : Value → World → Prop} {x : Operand} {ty : TypeId} {b off : Nat} {cs : List Value} {d : TypeDesc} (ho : o.op = .load ty x) (hx : ρ x = .pointer (some ⟨b, off, none⟩))
    (hc : w.rangeAt b off cs) (hu : P.underlying ty = some d) (hd : d.isRow = true) (hi : (P.info? ty).map (·.size) = some cs.length) (k : Φ (.agg cs.toArray) w) : Gives P o ρ w Φ := by
  refine Gives.value (v := .agg cs.toArray) (w' := w) ?_ k
  unfold execOp
  simp only [ho, hx, Instr.loadAt, Instr.sureAddr, Sem.run_bind, Sem.run_pure, Result.andThen_ok, run_loadVar_mid w b off ty cs d hc hu hd hi]
theorem gv_store_mid {P : Program} {o : Oper} {ρ : Operand → Value} {w : World} {Φ : Value → World → Prop} {x y : Operand} {ty : TypeId} {b off : Nat} {cells : Array Value} (ho : o.op = .store ty x y) (hx : ρ x = .pointer (some ⟨b, off, none⟩)) (hy : ρ y = .agg cells)
    (ht : w.there b off cells.size) (hi : (P.info? ty).map (·.size) = some cells.size) (h1 : cells.all (·.oneCell') = true) (k : Φ undef (w.setCells b off cells.toList)) : Gives P o ρ w Φ := by
  refine Gives.skip (w' := w.setCells b off cells.toList) ?_ k
  unfold execOp
  simp only [ho, hx, hy, Sem.run_bind, Sem.run_pure, run_storeAt_mid w b off ty cells ht hi h1, Result.andThen_ok]
end Go.Proofs.Ytkndnlhlglgmfaa
