/- What is proved here, of the given program: A region that draws its order: quiet operations, and at its end writes that wait for all ahead of them: ONE walk. No program in sight. -/
import Derived.Test.YtaendhbiehknlaaGreatDoorU01
set_option linter.unusedVariables false
set_option linter.unusedSimpArgs false
set_option linter.constructorNameAsVariable false
namespace Go.Proofs.YtaendhbiehknlaaGreatDoor
open Go.RowKit Go.Proofs

section
variable {P : Program} {C : World → Prop} {md : Region.Mode}
def skipOf (o : Oper) : Oper := { o with dst := none, op := .move (.const undef), guard := none }
/-- The region with its tail laid still. -/
def tame (l tail : List Oper) : Array Oper := (l ++ tail.map skipOf).toArray
/-- j is ahead of i, by the edges. -/
def ancB (md : Region.Mode) (ops : List Oper) : Nat → Nat → Nat → Bool
  | 0, _, _ => false
  | n + 1, i, j => (ops[i]?).any fun o => o.after.any fun e => Region.binds md e && (decide (e.on = j) || ancB md ops n e.on j)
/-- What is listed is listed with all that it waits for. -/
def Closed (md : Region.Mode) (ops : List Oper) (listed : Array Bool) : Prop := ∀ i o, ops[i]? = some o → listed.getD i false = true → ∀ e ∈ o.after, Region.binds md e = true → listed.getD e.on false = true
theorem anc_listed {md : Region.Mode} {ops : List Oper} {listed : Array Bool} (hc : Closed md ops listed) : ∀ (n i j : Nat), ancB md ops n i j = true → (∀ o, ops[i]? = some o → ∀ e ∈ o.after, Region.binds md e = true → listed.getD e.on false = true) → listed.getD j false = true := by
  intro n
  induction n with
  | zero => intro i j h; cases h
  | succ n ih =>
    intro i j h hi
    unfold ancB at h
    cases hq : ops[i]? with
    | none => rw [hq] at h; cases h
    | some o =>
      rw [hq] at h
      simp only [Option.any_some] at h
      obtain ⟨k, hk, h⟩ := Array.any_eq_true.1 h
      simp only [Bool.and_eq_true, Bool.or_eq_true, decide_eq_true_eq] at h
      obtain ⟨hb, h | h⟩ := h
      · rw [← h]; exact hi o hq _ (Array.getElem_mem hk) hb
      · exact ih _ _ h (fun o2 ho2 => hc _ o2 ho2 (hi o hq _ (Array.getElem_mem hk) hb))
/-- The closed facts. -/
def tailB (md : Region.Mode) (l tail : List Oper) : Bool :=
  Region.noSelect (tame l tail) && Region.lexFrom md (tame l tail) (l ++ tail.map skipOf).length 0 (Array.replicate (l ++ tail.map skipOf).length false) && (l.all (·.guard.isNone)) &&
  (List.range (l ++ tail).length).all fun i => (((l ++ tail)[i]?).any fun o => o.after.all fun e => !Region.binds md e || decide (e.on < i)) &&
    (decide (i < l.length) || (List.range i).all fun j => ancB md (l ++ tail) i i j)
theorem quiet_skips {ops : Array Oper} {Q : Act → Prop} {a : Act} (h : Q a) : ∀ tail : List Oper, wpQuiet P ops C Q (tail.map skipOf) a
  | [] => h
  | o :: r => by
    have hw : Region.wanted (skipOf o) (yielded ops a.tmps) = true := by simp [Region.wanted, skipOf]
    show if Region.wanted (skipOf o) (yielded ops a.tmps) = true then _ else _
    rw [if_pos hw]
    exact Go.BigFrame.quiet_move (.const undef) rfl (quiet_skips (a := a) h r)
theorem quiet_mono' {ops : Array Oper} {Q Q' : Act → Prop} (hQ : ∀ a, Q a → Q' a) : ∀ (l : List Oper) (a : Act), wpQuiet P ops C Q l a → wpQuiet P ops C Q' l a
  | [], _, h => hQ _ h
  | o :: l, a, h => by
    show if Region.wanted o (yielded ops a.tmps) = true then _ else _
    have h : if Region.wanted o (yielded ops a.tmps) = true then _ else _ := h
    split at h
    · rename_i hw; rw [if_pos hw]; exact Oper.quiet_mono (fun a' ha => quiet_mono' hQ l a' ha) h
    · rename_i hw; rw [if_neg hw]; exact quiet_mono' hQ l _ h
theorem quiet_ops {ops ops' : Array Oper} {Q : Act → Prop} : ∀ (l r : List Oper) (a : Act), (l.all (·.guard.isNone)) = true → wpQuiet P ops C (wpQuiet P ops' C Q r) l a → wpQuiet P ops' C Q (l ++ r) a
  | [], _, _, _, h => h
  | o :: l, r, a, hg, h => by
    simp only [List.all_cons, Bool.and_eq_true] at hg
    have hw : ∀ ops : Array Oper, Region.wanted o (yielded ops a.tmps) = true := fun ops => by
      have := hg.1
      cases hq : o.guard <;> simp_all [Region.wanted]
    show if Region.wanted o (yielded ops' a.tmps) = true then _ else _
    have h : if Region.wanted o (yielded ops a.tmps) = true then _ else _ := h
    rw [if_pos (hw _)] at h ⊢
    exact Oper.quiet_mono (fun a' ha => quiet_ops l r a' hg.2 ha) h

/-- What is listed: exactly the first m. -/
def Upto (n m : Nat) (listed : Array Bool) : Prop := listed.size = n ∧ ∀ j, j < n → listed.getD j true = decide (j < m)
theorem Upto.next {n m : Nat} {listed : Array Bool} (h : Upto n m listed) (hm : m < n) : Upto n (m + 1) (listed.setIfInBounds m true) := by
  refine ⟨by simpa using h.1, fun j hj => ?_⟩
  by_cases e : m = j
  · subst e; simp [h.1, hm]
  · rw [getD_set_ne true e, h.2 j hj]
    simp only [decide_eq_decide]; omega
theorem getD_true_false {listed : Array Bool} {j : Nat} (hj : j < listed.size) : listed.getD j false = listed.getD j true := by simp [hj]
structure Tail (md : Region.Mode) (l tail : List Oper) : Prop where
  back : ∀ i o, (l ++ tail)[i]? = some o → ∀ e ∈ o.after, Region.binds md e = true → e.on < i
  all : ∀ i, i < (l ++ tail).length → l.length ≤ i → ∀ j, j < i → ancB md (l ++ tail) i i j = true
theorem tail_of {l tail : List Oper} (h : tailB md l tail = true) : Tail md l tail := by
  simp only [tailB, Bool.and_eq_true, List.all_eq_true, List.mem_range] at h
  obtain ⟨_, h⟩ := h
  refine ⟨fun i o ho e he hb => ?_, fun i hlt hi j hj => ?_⟩
  · have := (h i (List.getElem?_eq_some_iff.1 ho).1).1
    rw [ho] at this
    simp only [Option.any_some, Array.all_eq_true_iff_forall_mem, Bool.or_eq_true, Bool.not_eq_true', decide_eq_true_eq] at this
    have := this e he
    rw [hb] at this
    simpa using this
  · have := (h i hlt).2
    simp only [Bool.or_eq_true, decide_eq_true_eq, List.all_eq_true, List.mem_range] at this
    exact (this.resolve_left (by omega)) j hj
theorem Upto.closed {l tail : List Oper} (ht : Tail md l tail) {m : Nat} {listed : Array Bool} (hu : Upto (l ++ tail).length m listed) : Closed md (l ++ tail) listed := by
  intro i o ho hl e he hb
  have hil := (List.getElem?_eq_some_iff.1 ho).1
  have hlt := ht.back i o ho e he hb
  rw [getD_true_false (by rw [hu.1]; exact hil), hu.2 i hil] at hl
  rw [getD_true_false (by rw [hu.1]; omega), hu.2 e.on (by omega)]
  simp only [decide_eq_true_eq] at hl ⊢
  omega
theorem Closed.next {ops : List Oper} {listed : Array Bool} {i : Nat} (h : Closed md ops listed) (hi : ∀ o, ops[i]? = some o → ∀ e ∈ o.after, Region.binds md e = true → listed.getD e.on false = true) : Closed md ops (listed.setIfInBounds i true) := by
  have keep : ∀ j, listed.getD j false = true → (listed.setIfInBounds i true).getD j false = true := by
    intro j hj
    by_cases e : i = j
    · subst e
      have hlt : i < listed.size := by
        rcases Nat.lt_or_ge i listed.size with h | h
        · exact h
        · simp [Array.getD, Nat.not_lt.2 h] at hj
      simp [hlt]
    · rw [getD_set_ne false e]; exact hj
  intro j o ho hl e he hb
  by_cases ej : i = j
  · subst ej; exact keep _ (hi o ho e he hb)
  · rw [getD_set_ne false ej] at hl
    exact keep _ (h j o ho hl e he hb)
theorem tame_get {l tail : List Oper} (i : Nat) (o : Oper) (h : (l ++ tail)[i]? = some o) : (tame l tail)[i]? = some (if i < l.length then o else skipOf o) := by
  simp only [tame, List.getElem?_toArray]
  by_cases hi : i < l.length
  · rw [if_pos hi, List.getElem?_append_left hi]; rwa [List.getElem?_append_left hi] at h
  · rw [if_neg hi, List.getElem?_append_right (by omega), List.getElem?_map]
    rw [List.getElem?_append_right (by omega)] at h
    rw [h]; rfl
/-- The same operations may come up. -/
theorem ready_tame {l tail : List Oper} {listed : Array Bool} (i : Nat) : i ∈ Region.ready md (tame l tail) listed ↔ i ∈ Region.ready md (l ++ tail).toArray listed := by
  rw [mem_ready, mem_ready]
  refine and_congr_right fun _ => ?_
  rw [show (l ++ tail).toArray[i]? = (l ++ tail)[i]? from by simp]
  cases hq : (l ++ tail)[i]? with
  | none =>
    have : (tame l tail)[i]? = none := by
      rw [tame, List.getElem?_toArray, List.getElem?_eq_none]
      have := List.getElem?_eq_none_iff.1 hq
      simpa using this
    simp [this]
  | some o =>
    rw [tame_get i o hq]
    have : (if i < l.length then o else skipOf o).after = o.after := by split <;> rfl
    simp [this]
theorem ready_first {l tail : List Oper} (ht : Tail md l tail) {m : Nat} {listed : Array Bool} (hu : ∀ j, j < m → listed.getD j false = true) (hm : m < (l ++ tail).length) (hn : listed.getD m true = false) : m ∈ Region.ready md (l ++ tail).toArray listed := by
  rw [mem_ready]
  refine ⟨hn, (l ++ tail)[m], by rw [List.getElem?_toArray, List.getElem?_eq_getElem hm], fun e he hb => ?_⟩
  exact hu _ (ht.back m _ (List.getElem?_eq_getElem hm) e he hb)

variable {Q : Exit → Act → World → Prop}
/-- The tail, in its one order. -/
theorem tail_goes {l tail : List Oper} (ht : Tail md l tail) {Qp : Act → Prop} : ∀ (fuel m : Nat) (listed : Array Bool) (a0 a : Act) (w : World), l.length ≤ m → Upto (l ++ tail).length m listed → wpAnyQ P md (tame l tail) C Qp fuel listed a0 →
    wpList P (l ++ tail).toArray Q ((l ++ tail).drop m) a w → wpAny P md (l ++ tail).toArray Q fuel listed a w := by
  intro fuel
  induction fuel with
  | zero =>
    intro m listed a0 a w hm hu hq h
    have hr : Region.ready md (l ++ tail).toArray listed = [] := by
      refine List.eq_nil_iff_forall_not_mem.2 fun i hi => ?_
      have h0 := hq.1
      have := (ready_tame (md := md) (l := l) (tail := tail) i).2 hi
      rw [h0] at this; cases this
    refine ⟨hr, ?_⟩
    rcases Nat.lt_or_ge m (l ++ tail).length with hlt | hge
    · have := ready_first (md := md) ht (listed := listed) (m := m) (fun j hj => by rw [getD_true_false (by rw [hu.1]; omega), hu.2 j (by omega)]; simpa using hj) hlt (by rw [hu.2 m hlt]; simp)
      rw [hr] at this; cases this
    · rw [List.drop_of_length_le hge] at h; exact h
  | succ fuel ih =>
    intro m listed a0 a w hm hu hq h
    have hlow : ∀ j, j < m → j < (l ++ tail).length → listed.getD j false = true := fun j hj hl => by rw [getD_true_false (by rw [hu.1]; exact hl), hu.2 j hl]; simpa using hj
    refine ⟨fun hr => ?_, fun i hi => ?_⟩
    · rcases Nat.lt_or_ge m (l ++ tail).length with hlt | hge
      · have := ready_first (md := md) ht (listed := listed) (m := m) (fun j hj => hlow j hj (by omega)) hlt (by rw [hu.2 m hlt]; simp)
        rw [hr] at this; cases this
      · rw [List.drop_of_length_le hge] at h; exact h
    · obtain ⟨h0, o, ho, he⟩ := mem_ready.1 hi
      rw [List.getElem?_toArray] at ho
      have hil := (List.getElem?_eq_some_iff.1 ho).1
      have hmi : m ≤ i := by
        rw [hu.2 i hil] at h0
        simpa using h0
      have him : i = m := by
        rcases Nat.lt_or_ge m i with hlt | hge
        · have := anc_listed (hu.closed ht) i i m (ht.all i hil (by omega) m hlt) (fun o2 ho2 => by rw [ho] at ho2; injection ho2 with ho2; subst ho2; exact he)
          rw [getD_true_false (by rw [hu.1]; omega), hu.2 m (by omega)] at this
          simp at this
        · omega
      subst him
      have hq2 := hq.2 i ((ready_tame i).2 hi)
      unfold qOp at hq2
      rw [tame_get i o ho, if_neg (by omega)] at hq2
      have hw : Region.wanted (skipOf o) (yielded (tame l tail) a0.tmps) = true := by simp [Region.wanted, skipOf]
      simp only [hw, if_true] at hq2
      obtain ⟨v, _, hq3⟩ := hq2
      have hstep := fun a w h => ih (i + 1) _ _ a w (by omega) (hu.next hil) hq3 h
      rw [List.drop_eq_getElem_cons hil, (List.getElem?_eq_some_iff.1 ho).2] at h
      unfold wpOp
      rw [show (l ++ tail).toArray[i]? = some o from by rw [List.getElem?_toArray]; exact ho]
      have h : if Region.wanted o (yielded (l ++ tail).toArray a.tmps) = true then o.wp P a w (wpList P (l ++ tail).toArray Q ((l ++ tail).drop (i + 1))) Q ∨ (o.asks P a w ∧ LetsOut Q) else wpList P (l ++ tail).toArray Q ((l ++ tail).drop (i + 1)) (a.put o.dst undef) w := h
      show if Region.wanted o (yielded (l ++ tail).toArray a.tmps) = true then _ else _
      split at h
      · rename_i hw; rw [if_pos hw]
        exact h.imp (Oper.wp_mono hstep) id
      · rename_i hw; rw [if_neg hw]
        exact hstep _ _ h
/-- Behind the first part: the lexical walk's end holds. -/
theorem tail_end {l tail : List Oper} (ht : Tail md l tail) {Qp : Act → Prop} : ∀ (fuel m : Nat) (listed : Array Bool) (a : Act), l.length ≤ m → Upto (l ++ tail).length m listed → wpAnyQ P md (tame l tail) C Qp fuel listed a → Qp a := by
  intro fuel
  induction fuel with
  | zero => intro m listed a hm hu hq; exact hq.2
  | succ fuel ih =>
    intro m listed a hm hu hq
    rcases Nat.lt_or_ge m (l ++ tail).length with hlt | hge
    · have hr := ready_first (md := md) ht (listed := listed) (m := m) (fun j hj => by rw [getD_true_false (by rw [hu.1]; omega), hu.2 j (by omega)]; simpa using hj) hlt (by rw [hu.2 m hlt]; simp)
      have hq2 := hq.2 m ((ready_tame m).2 hr)
      unfold qOp at hq2
      rw [tame_get m _ (List.getElem?_eq_getElem hlt), if_neg (by omega)] at hq2
      have hw : Region.wanted (skipOf (l ++ tail)[m]) (yielded (tame l tail) a.tmps) = true := by simp [Region.wanted, skipOf]
      simp only [hw, if_true] at hq2
      obtain ⟨v, _, hq3⟩ := hq2
      exact ih (m + 1) _ a (by omega) (hu.next hlt) hq3
    · refine hq.1 (List.eq_nil_iff_forall_not_mem.2 fun i hi => ?_)
      obtain ⟨h0, o, ho, _⟩ := mem_ready.1 ((ready_tame i).1 hi)
      rw [List.getElem?_toArray] at ho
      have hil := (List.getElem?_eq_some_iff.1 ho).1
      rw [hu.2 i hil] at h0
      simp at h0; omega
/-- Whatever order is picked: the first part quiet, then the tail. -/
theorem any_of_tail {l tail : List Oper} (ht : Tail md l tail) (hne : tail ≠ []) (hg : (l.all (·.guard.isNone)) = true) : ∀ (fuel : Nat) (listed : Array Bool) (a : Act) (w : World), listed.size = (l ++ tail).length → (∀ j, l.length ≤ j → j < (l ++ tail).length → listed.getD j true = false) → Closed md (l ++ tail) listed → C w →
    wpAnyQ P md (tame l tail) C (fun a' => ∀ w', C w' → wpList P (l ++ tail).toArray Q tail a' w') fuel listed a → wpAny P md (l ++ tail).toArray Q fuel listed a w := by
  have hlen : l.length < (l ++ tail).length := by
    rw [List.length_append]
    have := List.length_pos_iff.2 hne
    omega
  intro fuel
  have first : ∀ listed : Array Bool, listed.size = (l ++ tail).length → (∀ j, l.length ≤ j → j < (l ++ tail).length → listed.getD j true = false) → ∃ m, m ≤ l.length ∧ m ∈ Region.ready md (l ++ tail).toArray listed := by
    intro listed hs hun
    have hex : ∃ m, listed.getD m true = false := ⟨l.length, hun _ (Nat.le_refl _) hlen⟩
    have hmin : ∀ k, (∃ m, m ≤ k ∧ listed.getD m true = false) → ∃ m, m ≤ k ∧ listed.getD m true = false ∧ ∀ j, j < m → listed.getD j true = true := by
      intro k
      induction k with
      | zero => rintro ⟨m, hm, h⟩; exact ⟨m, hm, h, fun j hj => by omega⟩
      | succ k ih =>
        rintro ⟨m, hm, h⟩
        by_cases hk : ∃ m, m ≤ k ∧ listed.getD m true = false
        · obtain ⟨m', h1, h2, h3⟩ := ih hk
          exact ⟨m', by omega, h2, h3⟩
        · refine ⟨m, hm, h, fun j hj => ?_⟩
          cases hq : listed.getD j true
          · exact absurd ⟨j, by omega, hq⟩ hk
          · rfl
    obtain ⟨m, h1, h2, h3⟩ := hmin l.length ⟨_, Nat.le_refl _, hun _ (Nat.le_refl _) hlen⟩
    exact ⟨m, h1, ready_first ht (fun j hj => by rw [getD_true_false (by omega)]; exact h3 j hj) (by omega) h2⟩
  induction fuel with
  | zero =>
    intro listed a w hs hun hcl hw hq
    obtain ⟨m, _, hr⟩ := first listed hs hun
    have := (ready_tame (md := md) (l := l) (tail := tail) m).2 hr
    rw [hq.1] at this; cases this
  | succ fuel ih =>
    intro listed a w hs hun hcl hw hq
    refine ⟨fun hr => (by obtain ⟨m, _, h⟩ := first listed hs hun; rw [hr] at h; cases h), fun i hi => ?_⟩
    by_cases hil : i < l.length
    · have hq2 := hq.2 i ((ready_tame i).2 hi)
      obtain ⟨_, o, ho, hed⟩ := mem_ready.1 hi
      rw [List.getElem?_toArray] at ho
      have hnx := hcl.next (i := i) (fun o2 ho2 => by rw [ho] at ho2; injection ho2 with ho2; subst ho2; exact hed)
      have hw1 : ∀ ops : Array Oper, Region.wanted o (yielded ops a.tmps) = true := fun ops => by
        rw [List.getElem?_append_left hil] at ho
        have := List.all_eq_true.1 hg o (List.mem_of_getElem? ho)
        cases hq : o.guard <;> simp_all [Region.wanted]
      unfold qOp at hq2
      rw [tame_get i o ho, if_pos hil] at hq2
      simp only [hw1, if_true] at hq2
      unfold wpOp
      rw [show (l ++ tail).toArray[i]? = some o from by rw [List.getElem?_toArray]; exact ho]
      show if Region.wanted o (yielded (l ++ tail).toArray a.tmps) = true then _ else _
      rw [if_pos (hw1 _)]
      exact .inl (Oper.wp_of_quiet hw (fun a' w' hw' h => ih _ a' w' (by simpa using hs) (fun j h1 h2 => by rw [getD_set_ne true (by omega)]; exact hun j h1 h2) hnx hw' h) hq2)
    · obtain ⟨h0, o, ho, he⟩ := mem_ready.1 hi
      rw [List.getElem?_toArray] at ho
      have hit := (List.getElem?_eq_some_iff.1 ho).1
      have hu : Upto (l ++ tail).length l.length listed := ⟨hs, fun j hj => by
        rcases Nat.lt_or_ge j l.length with h1 | h1
        · have := anc_listed hcl i i j (ht.all i hit (by omega) j (by omega)) (fun o2 ho2 => by rw [ho] at ho2; injection ho2 with ho2; subst ho2; exact he)
          rw [getD_true_false (by omega)] at this
          rw [this]; simpa using h1
        · rw [hun j h1 hj]; simpa using h1⟩
      exact (tail_goes ht (fuel + 1) l.length listed a a w (Nat.le_refl _) hu hq (by rw [List.drop_left]; exact tail_end ht (fuel + 1) l.length listed a (Nat.le_refl _) hu hq w hw)).2 i hi
/-- A REGION THAT DRAWS: the first operations quiet, one walk in the text's order; then the tail, as a plain list. -/
theorem wp_region_tail {id : Nat} {a : Act} {w : World} (k : Nat) {L : List Oper} (hm : P.follows .mixedOrders = true) (hB : tailB .any (L.take k) (L.drop k) = true) (hk : k < L.length)
    (h : wpQuiet P L.toArray (fun w' => ∃ n, w' = w.drewN n) (fun a' => ∀ w', (∃ n, w' = w.drewN n) → wpList P L.toArray Q (L.drop k) a' w') (L.take k) a) : (Code.region id L.toArray true).wp P Q a w := by
  have ht := tail_of hB
  have hne : L.drop k ≠ [] := by
    intro e
    have := congrArg List.length e
    simp at this; omega
  simp only [tailB, Bool.and_eq_true] at hB
  obtain ⟨⟨⟨h1, h2⟩, h3⟩, _⟩ := hB
  refine wp_region_any hm ?_
  have hL : L.toArray = (L.take k ++ L.drop k).toArray := by rw [List.take_append_drop]
  rw [hL]
  rw [hL] at h
  refine any_of_tail (C := fun w' => ∃ n, w' = w.drewN n) ht hne h3 _ _ a _ (by simp) (fun j _ hj => by simp at hj; simp [hj]) (fun i o _ hl => by simp [Array.getD] at hl) ⟨1, rfl⟩ ?_
  have hq := quiet_ops (ops' := tame (L.take k) (L.drop k)) (L.take k) ((L.drop k).map skipOf) a h3 (Q := fun a' => ∀ w', (∃ n, w' = w.drewN n) → wpList P (L.take k ++ L.drop k).toArray Q (L.drop k) a' w') (C := fun w' => ∃ n, w' = w.drewN n) (P := P) (ops := (L.take k ++ L.drop k).toArray) ?_
  · have := wpAnyQ_lex (C := fun w' => ∃ n, w' = w.drewN n) (md := .any) h1 (L.take k ++ (L.drop k).map skipOf) 0 _ a (fun j => by simp [tame]) h2 hq
    have hl : (L.take k ++ (L.drop k).map skipOf).length = (L.take k ++ L.drop k).toArray.size := by simp; omega
    rw [hl] at this
    exact this
  · exact quiet_mono' (fun a' h' => quiet_skips h' _) _ _ h
end
end Go.Proofs.YtaendhbiehknlaaGreatDoor
