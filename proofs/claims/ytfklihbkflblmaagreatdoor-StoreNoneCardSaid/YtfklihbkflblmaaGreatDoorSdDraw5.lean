import Derived.Test.YtfklihbkflblmaaGreatDoorSdDraw4
set_option linter.all false
namespace Sd
open Go Go.RowKit
section
variable {C : Ctx} {call : CallF} {ops : Array Oper}

/-! ### what a checked plan says -/
structure PlanP (ops : Array Oper) (p : Plan) : Prop where
  inside : ∀ i ∈ p.order, i < ops.size
  cover : ∀ i, i < ops.size → i ∈ p.order
  nodup : p.order.Nodup
  dsts : ∀ (i j : Nat) (oi oj : Oper) (d : Tmp), ops[i]? = some oi → ops[j]? = some oj → oi.dst = some d → oj.dst = some d → i = j
  back : ∀ (i : Nat) (o : Oper), ops[i]? = some o → ∀ e ∈ onsOf o, e < i
  closed : ∀ (S : Nat → Prop), (∀ (i : Nat) (o : Oper), S i → ops[i]? = some o → ∀ e ∈ onsOf o, S e) → ∀ (i : Nat) (o : Oper), ops[i]? = some o → (∀ e ∈ onsOf o, S e) → ∀ j, (maskAt p.tab i).testBit j = true → S j
  use : ∀ (pre : List Nat) (i : Nat) (rest : List Nat) (o : Oper), p.order = pre ++ i :: rest → ops[i]? = some o → ∀ (j : Nat) (oj : Oper) (t : Tmp), ops[j]? = some oj → oj.dst = some t → t ∈ usedBy ops o → (maskAt p.tab i).testBit j = true ∧ j ∈ pre
  turn : ∀ (pre : List Nat) (i : Nat) (rest : List Nat) (o : Oper), p.order = pre ++ i :: rest → ops[i]? = some o → isM o.op = true → ∀ j ∈ pre, (maskAt p.tab i).testBit j = true
  late : ∀ (i : Nat) (o : Oper), ops[i]? = some o → isL o.op = true → ∃ lo hi, (i, lo, hi) ∈ p.late ∧ (lo = 0 ∨ (maskAt p.tab i).testBit (p.ms.getD (lo - 1) 0) = true) ∧ (hi = p.ms.length ∨ (maskAt p.tab (p.ms.getD hi 0)).testBit i = true) ∧ lo ≤ hi ∧ hi ≤ p.ms.length
  apartMA : ∀ (i : Nat) (o : Oper), ops[i]? = some o → isM o.op = true → isA o.op = false
  apartML : ∀ (i : Nat) (o : Oper), ops[i]? = some o → isM o.op = true → isL o.op = false
  apartLA : ∀ (i : Nat) (o : Oper), ops[i]? = some o → isL o.op = true → isA o.op = false
  ms : p.ms = p.order.filter fun i => isM (opAt ops i)

theorem orAll_bit {tab : T Nat} {j : Nat} : ∀ {l : List Nat}, (orAll tab l).testBit j = true → ∃ e ∈ l, j = e ∨ (maskAt tab e).testBit j = true := by
  intro l
  induction l with
  | nil => intro h; simp [orAll] at h
  | cons e l ih =>
    intro h
    have h : ((2 ^ e ||| maskAt tab e) ||| orAll tab l).testBit j = true := h
    simp only [Nat.testBit_or, Bool.or_eq_true, Nat.testBit_two_pow, decide_eq_true_eq] at h
    rcases h with (h | h) | h
    · exact ⟨e, List.mem_cons_self, .inl h.symm⟩
    · exact ⟨e, List.mem_cons_self, .inr h⟩
    · obtain ⟨e', h1, h2⟩ := ih h
      exact ⟨e', List.mem_cons_of_mem _ h1, h2⟩
theorem nodupN_spec : ∀ {l : List Nat}, nodupN l = true → l.Nodup := by
  intro l
  induction l with
  | nil => intro _; exact List.nodup_nil
  | cons a l ih =>
    intro h
    simp only [nodupN, Bool.and_eq_true, Bool.not_eq_true'] at h
    refine List.nodup_cons.2 ⟨fun hm => ?_, ih h.2⟩
    have : l.any (Nat.beq a) = true := List.any_eq_true.2 ⟨a, hm, by simp⟩
    rw [this] at h; exact absurd h.1 (by simp)
theorem order_spec {tab : T Nat} : ∀ {l : List Nat} {seen : Nat} {done : List Nat}, orderOk ops tab l seen = true → (∀ j, seen.testBit j = true ↔ j ∈ done) → ∀ (pre : List Nat) (i : Nat) (rest : List Nat) (o : Oper), l = pre ++ i :: rest → ops[i]? = some o →
    (∀ (j : Nat) (oj : Oper) (t : Tmp), ops[j]? = some oj → oj.dst = some t → t ∈ usedBy ops o → (maskAt tab i).testBit j = true ∧ j ∈ done ++ pre) ∧ (isM o.op = true → ∀ j ∈ done ++ pre, (maskAt tab i).testBit j = true) ∧
    (isM o.op = true → isA o.op = false) ∧ (isM o.op = true → isL o.op = false) ∧ (isL o.op = true → isA o.op = false) := by
  intro l
  induction l with
  | nil => intro seen done _ _ pre i rest o he; cases pre <;> cases he
  | cons k l ih =>
    intro seen done h hs pre i rest o he ho
    simp only [orderOk] at h
    split at h
    · rename_i ok hok
      simp only [Bool.and_eq_true] at h
      obtain ⟨⟨⟨⟨⟨h1, h2⟩, h3⟩, h4⟩, h5⟩, h6⟩ := h
      cases pre with
      | nil =>
        cases he
        rw [ho] at hok; cases hok
        refine ⟨fun j oj t hj hd ht => ?_, fun hM j hj => ?_, fun hM => ?_, fun hM => ?_, fun hL => ?_⟩
        · have hlt : j < ops.size := (Array.getElem?_eq_some_iff.1 hj).1
          have := (List.all_eq_true.1 h1) j (List.mem_range.2 hlt)
          rw [hj] at this
          simp only [hd] at this
          have hany : (usedBy ops o).any (Nat.beq t) = true := List.any_eq_true.2 ⟨t, ht, by simp⟩
          rw [hany] at this
          simp only [Bool.not_true, Bool.false_or, Bool.and_eq_true] at this
          exact ⟨this.1, List.mem_append_left _ ((hs j).1 this.2)⟩
        · rw [hM] at h2
          simp only [Bool.not_true, Bool.false_or] at h2
          have h2 : seen &&& maskAt tab _ = seen := Nat.eq_of_beq_eq_true h2
          have hj : j ∈ done := by simpa using hj
          have hb := (hs j).2 hj
          rw [← h2, Nat.testBit_and, Bool.and_eq_true] at hb
          exact hb.2
        · rw [hM] at h3; simpa using h3
        · rw [hM] at h4; simpa using h4
        · rw [hL] at h5; simpa using h5
      | cons k2 pre =>
        simp only [List.cons_append, List.cons.injEq] at he
        obtain ⟨rfl, rfl⟩ := he
        have hs' : ∀ j, (Nat.lor seen (Nat.pow 2 k)).testBit j = true ↔ j ∈ done ++ [k] := by
          intro j
          have : (Nat.lor seen (Nat.pow 2 k)).testBit j = (seen.testBit j || (2 ^ k).testBit j) := Nat.testBit_or seen (2 ^ k) j
          rw [this, Bool.or_eq_true, Nat.testBit_two_pow, decide_eq_true_eq, hs j, List.mem_append, List.mem_singleton]
          exact or_congr Iff.rfl eq_comm
        obtain ⟨g1, g2, g3⟩ := ih h6 hs' pre i rest o rfl ho
        simp only [List.append_assoc, List.singleton_append] at g1 g2
        exact ⟨g1, g2, g3⟩
    · cases h
theorem filterMap_inj {α β : Type} {f : α → Option β} : ∀ {l : List α}, (l.filterMap f).Nodup → ∀ (i j : Nat) (a b : α) (d : β), l[i]? = some a → l[j]? = some b → f a = some d → f b = some d → i = j := by
  intro l
  induction l with
  | nil => intro _ i j a b d h; simp at h
  | cons x l ih =>
    intro hn i j a b d hi hj ha hb
    rcases i with _ | i <;> rcases j with _ | j
    · rfl
    · simp at hi hj
      subst hi
      rw [List.filterMap_cons, ha] at hn
      exact absurd (List.mem_filterMap.2 ⟨b, List.mem_of_getElem? hj, hb⟩) (List.nodup_cons.1 hn).1
    · simp at hi hj
      subst hj
      rw [List.filterMap_cons, hb] at hn
      exact absurd (List.mem_filterMap.2 ⟨a, List.mem_of_getElem? hi, ha⟩) (List.nodup_cons.1 hn).1
    · simp at hi hj
      have hn' : (l.filterMap f).Nodup := by
        rw [List.filterMap_cons] at hn
        split at hn
        · exact hn
        · exact (List.nodup_cons.1 hn).2
      rw [ih hn' i j a b d hi hj ha hb]
theorem nodup_len : ∀ (n : Nat) (l : List Nat), l.Nodup → (∀ x ∈ l, x < n) → l.length ≤ n := by
  intro n
  induction n with
  | zero =>
    intro l _ h
    cases l with
    | nil => simp
    | cons a l => exact absurd (h a List.mem_cons_self) (by omega)
  | succ n ih =>
    intro l hn h
    by_cases hm : n ∈ l
    · have h1 := ih (l.erase n) (hn.erase n) fun x hx => by
        have h2 := (hn.mem_erase_iff).1 hx
        have := h x h2.2
        have := h2.1
        omega
      rw [List.length_erase_of_mem hm] at h1
      omega
    · have := ih l hn fun x hx => by
        have h1 := h x hx
        have : x ≠ n := fun e => hm (e ▸ hx)
        omega
      omega
theorem cover_of {l : List Nat} {n : Nat} (hn : l.Nodup) (hl : l.length = n) (hi : ∀ i ∈ l, i < n) : ∀ i, i < n → i ∈ l := by
  intro i hi'
  by_cases hm : i ∈ l
  · exact hm
  · have := nodup_len n (i :: l) (List.nodup_cons.2 ⟨hm, hn⟩) fun x hx => by
      rcases List.mem_cons.1 hx with rfl | hx
      · exact hi'
      · exact hi x hx
    simp at this
    omega
theorem planP {p : Plan} (h : planOk ops p = true) : PlanP ops p := by
  unfold planOk at h
  simp only [Bool.and_eq_true] at h
  obtain ⟨⟨⟨⟨⟨⟨⟨h1, h2⟩, h3⟩, h4⟩, h5⟩, h6⟩, h7⟩, h8⟩ := h
  have hn := nodupN_spec h2
  have hin : ∀ i ∈ p.order, i < ops.size := fun i hi => by
    have := (List.all_eq_true.1 h3) i hi
    rw [← Nat.blt_eq]; exact this
  have hcov := cover_of hn (Nat.eq_of_beq_eq_true h1) hin
  have hmask : ∀ (i : Nat) (o : Oper), ops[i]? = some o → (∀ e ∈ onsOf o, e < i) ∧ maskAt p.tab i = orAll p.tab (onsOf o) := by
    intro i o ho
    have hlt : i < ops.size := (Array.getElem?_eq_some_iff.1 ho).1
    have := (List.all_eq_true.1 h5) i (List.mem_range.2 hlt)
    unfold maskOk at this
    rw [ho] at this
    simp only [Bool.and_eq_true] at this
    refine ⟨fun e he => ?_, Nat.eq_of_beq_eq_true this.2⟩
    have := (List.all_eq_true.1 this.1) e he
    rw [← Nat.blt_eq]; exact this
  have hsplit : ∀ (i : Nat) (o : Oper), ops[i]? = some o → ∃ pre rest, p.order = pre ++ i :: rest := by
    intro i o ho
    exact List.append_of_mem (hcov i (Array.getElem?_eq_some_iff.1 ho).1)
  have hord := order_spec (done := []) h6 (fun j => by simp)
  refine ⟨hin, hcov, hn, ?_, fun i o ho => (hmask i o ho).1, ?_, ?_, ?_, ?_, ?_, ?_, ?_, ?_⟩
  · intro i j oi oj d hi hj hdi hdj
    exact filterMap_inj (nodupN_spec h4) i j oi oj d (by simpa using hi) (by simpa using hj) hdi hdj
  · intro S hS i
    induction i using Nat.strongRecOn with
    | _ i ih =>
      intro o ho hons j hj
      obtain ⟨hlt, heq⟩ := hmask i o ho
      rw [heq] at hj
      obtain ⟨e, he, hje⟩ := orAll_bit hj
      rcases hje with rfl | hje
      · exact hons _ he
      · have hlte := hlt e he
        have hsz : i < ops.size := (Array.getElem?_eq_some_iff.1 ho).1
        have hoe : ops[e]? = some ops[e] := Array.getElem?_eq_getElem (by omega)
        exact ih e hlte _ hoe (hS e _ (hons e he) hoe) j hje
  · intro pre i rest o he ho
    have := (hord pre i rest o he ho).1
    simpa using this
  · intro pre i rest o he ho
    have := (hord pre i rest o he ho).2.1
    simpa using this
  · intro i o ho hL
    have hlt : i < ops.size := (Array.getElem?_eq_some_iff.1 ho).1
    have := (List.all_eq_true.1 h8) i (hcov i hlt)
    rw [show opAt ops i = o.op from by simp [opAt, ho], hL] at this
    simp only [Bool.not_true, Bool.false_or] at this
    obtain ⟨⟨j, lo, hi⟩, hm, hl⟩ := List.any_eq_true.1 this
    simp only [lateOk, Bool.and_eq_true, Bool.or_eq_true] at hl
    obtain ⟨⟨⟨⟨l1, l2⟩, l3⟩, l4⟩, l5⟩ := hl
    have l1 := Nat.eq_of_beq_eq_true l1
    subst l1
    exact ⟨lo, hi, hm, l2.imp Nat.eq_of_beq_eq_true id, l3.imp Nat.eq_of_beq_eq_true id, Nat.le_of_ble_eq_true l4, Nat.le_of_ble_eq_true l5⟩
  · intro i o ho
    obtain ⟨pre, rest, he⟩ := hsplit i o ho
    exact (hord pre i rest o he ho).2.2.1
  · intro i o ho
    obtain ⟨pre, rest, he⟩ := hsplit i o ho
    exact (hord pre i rest o he ho).2.2.2.1
  · intro i o ho
    obtain ⟨pre, rest, he⟩ := hsplit i o ho
    exact (hord pre i rest o he ho).2.2.2.2
  · exact eq_of_beq h7
end
end Sd
