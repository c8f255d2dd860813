import Derived.Test.YtfklihbkflblmaaGreatDoorSdDraw10
set_option linter.all false
namespace Sd
open Go Go.RowKit
section
variable {C : Ctx} {call : CallF} {ops : Array Oper} {p : Plan} {w0 wI : World} {ι0 : Inj} {σ0 : LS} {envF : Env} {σF : LS} {stF : List LS} {defs : List Deferred}
variable {listed : Array Bool} {π pre rest : List Nat} {env e : Env} {σ σ' τ τ' : LS} {st : List LS} {a : Act} {w w' : World} {ι ι1 ι' : Inj} {i : Nat} {o : Oper} {v v' : Value}

def Closed (ops : Array Oper) (listed : Array Bool) : Prop := ∀ (i : Nat) (o : Oper), Done listed i → ops[i]? = some o → ∀ e ∈ onsOf o, Done listed e
/-- right behind an operation that turns something: the heaps so far -/
def Stage (ops : Array Oper) (p : Plan) (π : List Nat) (σ : LS) (st : List LS) : Prop := ∃ done older, p.order = done ++ π ∧ st = σ :: older ∧ older.length = (done.filter fun i => isM (opAt ops i)).length

theorem loadsAgree_mem {st : List LS} : ∀ {l : List (Nat × Nat × Nat)}, loadsAgree C ops env st l = true → ∀ i lo hi, (i, lo, hi) ∈ l → loadAgrees C ops env st i lo hi = true := by
  intro l
  induction l with
  | nil => intro _ i lo hi hm; cases hm
  | cons x l ih =>
    intro h i lo hi hm
    obtain ⟨i', lo', hi'⟩ := x
    simp only [loadsAgree, Bool.and_eq_true] at h
    rcases List.mem_cons.1 hm with hm | hm
    · cases hm; exact h.1
    · exact ih h.2 i lo hi hm
/-- a load that is run now gives what it gives in the canonical run -/
theorem Inv.looks (hP : PlanP ops p) (h : Inv C call ops p w0 wI ι0 σ0 envF σF stF defs listed π env σ st a w ι) (hl : loadsAgree C ops envF stF p.late = true) (hst : Stage ops p π σ st) (hcl : Closed ops listed)
    (hat : At C call ops π env σ pre i o e τ v τ') (hnot : ¬ Done listed i) (hready : ∀ j, (maskAt p.tab i).testBit j = true → Done listed j) (hL : isL o.op = true) (hw : wantedL ops e o = some true) :
    ∃ call' env', (∀ x ∈ o.op.operands, ev1 env' x = ev1 e x) ∧ evOp C call' o env' σ = some [(v, σ)] := by
  have hn := h.nodup hP
  obtain ⟨done, older, hd1, hd2, hd3⟩ := hst
  obtain ⟨lo, hi, hm, hlo, hhi, hle, hlen⟩ := hP.late i o hat.op hL
  have hag := loadsAgree_mem hl i lo hi hm
  obtain ⟨rest, st2, hπ, hrest⟩ := hat.line hn h.line
  -- what the end has, where it is used
  have hend : ∀ t ∈ usedBy ops o, envF.get t = e.get t := by
    intro t ht
    have hno : ∀ j ∈ i :: rest, ∀ oj, ops[j]? = some oj → oj.dst ≠ some t := by
      intro j hj oj hoj hd
      have := (hP.use (done ++ pre) i rest o (by rw [hd1, hπ]; simp) hat.op j oj t hoj hd ht).2
      have hnd := hP.nodup
      rw [hd1, hπ, ← List.append_assoc] at hnd
      exact absurd rfl ((List.nodup_append.1 hnd).2.2 j this j hj)
    rw [line_get hrest t fun j hj => hno j (List.mem_cons_of_mem _ hj)]
    cases hdst : o.dst with
    | none => rfl
    | some d => exact get_upd_other _ _ _ _ fun hc => hno i List.mem_cons_self o hat.op (by rw [hdst, hc])
  have hops : ∀ x ∈ o.op.operands, ev1 envF x = ev1 e x := by
    intro x hx
    cases x with
    | tmp t => exact hend t (List.mem_append_left _ (List.mem_filterMap.2 ⟨.tmp t, by simpa using hx, rfl⟩))
    | const c => rfl
    | global g => rfl
    | func f => rfl
  have hwF : wantedL ops envF o = some true := by
    rw [← hw]
    unfold wantedL
    cases hg : o.guard with
    | none => rfl
    | some jw =>
      obtain ⟨j, want⟩ := jw
      simp only
      cases hoj : ops[j]? with
      | none => rfl
      | some oj =>
        simp only
        cases hd : oj.dst with
        | none => rfl
        | some d =>
          simp only
          have : d ∈ usedBy ops o := by
            unfold usedBy
            refine List.mem_append_right _ ?_
            rw [hg]; simp only [hoj, hd]
            exact List.mem_singleton.2 rfl
          rw [hend d this]
  -- how many have turned something so far
  have hms : p.ms = (done.filter fun i => isM (opAt ops i)) ++ (π.filter fun i => isM (opAt ops i)) := by rw [hP.ms, hd1, List.filter_append]
  have hdoneD : ∀ j ∈ done, Done listed j := by
    obtain ⟨done2, h1, h2⟩ := h.pre
    have : done2 = done := by
      rw [hd1] at h1
      exact (List.append_cancel_right h1).symm
    rw [← this]; exact h2
  have hnoM : ∀ m ∈ π, isM (opAt ops m) = true → ¬ Done listed m := by
    intro m hm hM hD
    obtain ⟨pre2, o2, e2, τ2, v2, τ2', h2⟩ := at_of_mem h.line m hm
    have := (h.early h2 hD).1
    rw [show opAt ops m = o2.op from by simp [opAt, h2.op]] at hM
    rw [hM] at this; cases this
  have hgetD : ∀ k, k < p.ms.length → p.ms.getD k 0 ∈ (if k < older.length then done.filter fun i => isM (opAt ops i) else π.filter fun i => isM (opAt ops i)) := by
    intro k hk
    rw [List.getD_eq_getElem?_getD, List.getElem?_eq_getElem hk, Option.getD_some]
    have : p.ms[k]? = some p.ms[k] := List.getElem?_eq_getElem hk
    generalize p.ms[k] = m at this
    rw [hms, List.getElem?_append, ← hd3] at this
    split at this
    · rename_i hlt; rw [if_pos hlt]; exact List.mem_of_getElem? this
    · rename_i hlt; rw [if_neg hlt]; exact List.mem_of_getElem? this
  have hk1 : lo ≤ older.length := by
    rcases hlo with h0 | hb
    · omega
    · by_cases h0 : lo = 0
      · omega
      · have hD := hready _ hb
        have hmem := hgetD (lo - 1) (by omega)
        split at hmem
        · omega
        · obtain ⟨hmπ, hM⟩ := List.mem_filter.1 hmem
          exact absurd hD (hnoM _ hmπ hM)
  have hk2 : older.length ≤ hi := by
    rcases hhi with h0 | hb
    · have : older.length ≤ p.ms.length := by rw [hms, List.length_append, ← hd3]; omega
      omega
    · by_cases hc : older.length ≤ hi
      · exact hc
      · have hlt : hi < p.ms.length := by
          have : older.length ≤ p.ms.length := by rw [hms, List.length_append, ← hd3]; omega
          omega
        have hmem := hgetD hi hlt
        rw [if_pos (by omega)] at hmem
        obtain ⟨hmd, hM⟩ := List.mem_filter.1 hmem
        generalize p.ms.getD hi 0 = m at hb hmd hM
        have hmD := hdoneD m hmd
        have hmsz : m < ops.size := hP.inside m (by rw [hd1]; exact List.mem_append_left _ hmd)
        have hom : ops[m]? = some ops[m] := Array.getElem?_eq_getElem hmsz
        exact absurd (hP.closed (Done listed) hcl m _ hom (hcl m _ hmD hom) i hb) hnot
  -- the check at this stage
  unfold loadAgrees at hag
  rw [hat.op] at hag
  simp only [hwF] at hag
  split at hag
  · rename_i d hdst
    split at hag
    · rename_i v2 hv2
      have hveq : v2 = v := by
        have hno : ∀ j ∈ rest, ∀ oj, ops[j]? = some oj → oj.dst ≠ some d := by
          intro j hj oj hoj hd
          have := hP.dsts i j o oj d hat.op hoj hdst hd
          subst this
          rw [hπ] at hn
          have := (List.nodup_append.1 hn).2.1
          exact (List.nodup_cons.1 this).1 hj
        rw [line_get hrest d hno] at hv2
        rcases putD_get hv2 with ⟨_, h1⟩ | ⟨h1, _⟩
        · exact h1
        · exact absurd hdst h1
      subst hveq
      unfold loadAll at hag
      have hk := (List.all_eq_true.1 hag) (older.length - lo) (List.mem_range.2 (by omega))
      rw [show lo + (older.length - lo) = older.length from by omega] at hk
      unfold loadAt1 at hk
      have hstage : stageAt stF older.length = some σ := by
        obtain ⟨more, hmore⟩ := line_more h.line
        rw [hd2] at hmore
        unfold stageAt
        rw [hmore]
        simp
      rw [hstage] at hk
      simp only at hk
      split at hk
      · rename_i u σ2 hev
        have hu := veq_eq hk
        subst hu
        obtain ⟨u2, h1, h2⟩ := state_looks hL σ _ hev
        simp only [List.cons.injEq, Prod.mk.injEq, and_true] at h1
        obtain ⟨rfl, rfl⟩ := h1
        exact ⟨_, envF, hops, hev⟩
      · cases hk
    · cases hag
  · cases hag
end
end Sd
