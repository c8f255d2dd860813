import Derived.Test.YtfklihbkflblmaaGreatDoorSdDraw6
set_option linter.all false
namespace Sd
open Go Go.RowKit
section
variable {C : Ctx} {call : CallF} {ops : Array Oper} {p : Plan} {w0 wI : World} {ι0 : Inj} {σ0 : LS} {envF : Env} {σF : LS} {stF : List LS} {defs : List Deferred}
variable {listed : Array Bool} {π pre rest : List Nat} {env e : Env} {σ τ τ' : LS} {st : List LS} {a : Act} {w : World} {ι : Inj} {i : Nat} {o : Oper} {v : Value}

theorem lt_add {ι : Inj} {n : Nat} {L : Loc} (h : ι n = some L) : (ι.lt n).add n L = ι.lt (n + 1) := by
  funext b
  unfold Inj.add Inj.lt
  by_cases hb : b = n
  · subst hb; rw [if_pos rfl, if_pos (by omega), h]
  · rw [if_neg hb]
    by_cases hlt : b < n
    · rw [if_pos hlt, if_pos (by omega)]
    · rw [if_neg hlt, if_neg (by omega)]
theorem heap_lt (hS : Sim C w0 ι σ w) : ∀ b o, σ.heap.get b = some o → b < σ.next := fun b o h => by
  obtain ⟨L, _, h1, _⟩ := hS.live b o h
  exact (hS.dom b L h1).1

/-- the head of what is left is done already -/
theorem Inv.absorb (hS0 : Sim C w0 ι0 σ0 wI) (h : Inv C call ops p w0 wI ι0 σ0 envF σF stF defs listed (i :: rest) env σ st a w ι) (hi : Done listed i) :
    ∃ env' σ', Inv C call ops p w0 wI ι0 σ0 envF σF stF defs listed rest env' σ' st a w ι := by
  obtain ⟨o, v, σ', ho, hs, hl⟩ := line_cons h.line
  have hat : At C call ops (i :: rest) env σ [] i o env σ v σ' := .here ho hs
  obtain ⟨hM, hd, hob⟩ := h.early hat hi
  rw [hM] at hl
  simp only at hl
  have hnx := step1_next hs
  have hkind : σ' = σ ∨ ∃ ob L ro, σ' = σ.new ob ∧ ι σ.next = some L ∧ w.heap[L.r]? = some ro ∧ ObjR C.P (ι.lt σ'.next) L ob ro := (step1_kind hs hM).imp id hob
  refine ⟨putD env o.dst v, σ', ?_⟩
  have hmoved : Moved C w0 ι0 σ0 wI (ι.lt σ'.next) σ' w := by
    rcases hkind with rfl | ⟨ob, L, ro, rfl, h1, h2, h3⟩
    · exact h.moved
    · obtain ⟨e1, e2, e3⟩ := h.ext σ.next L (Nat.le_refl _) h1
      have h3' : ObjR C.P ((ι.lt σ.next).add σ.next L) L ob ro := by rw [lt_add h1]; exact h3
      have := moved_absorb h.moved (fun b K hb => (lt_some.1 hb).1) e1 e2 e3 h.moved.next hS0.below.size (heap_lt hS0) h2 h3'
      rw [lt_add h1] at this
      exact this
  have hlive : ∀ b L, σ'.next ≤ b → ι b = some L → ¬ Live (ι.lt σ'.next) σ' L.r := by
    intro b L hb hL
    rcases step1_kind hs hM with rfl | ⟨ob, rfl⟩
    · exact (h.ext b L hb hL).2.2
    · have hb : σ.next + 1 ≤ b := hb
      rintro ⟨x, ox, K, hx, hK, hr⟩
      have hK := (lt_some.1 hK)
      rcases get_set _ _ _ _ _ hx with ⟨rfl, _⟩ | ⟨hxn, hx⟩
      · have := h.extinj σ.next b K L (Nat.le_refl _) (by omega) hK.2 hL hr
        omega
      · have hxlt := heap_lt h.moved.sim x ox hx
        exact (h.ext b L (by omega) hL).2.2 ⟨x, ox, K, hx, lt_some.2 ⟨hxlt, hK.2⟩, hr⟩
  refine ⟨?_, hl, hmoved, ?_, ?_, ?_, ?_, ?_, ?_, h.defers⟩
  · obtain ⟨done, h1, h2⟩ := h.pre
    refine ⟨done ++ [i], by rw [h1]; simp, fun j hj => ?_⟩
    rcases List.mem_append.1 hj with hj | hj
    · exact h2 j hj
    · rw [List.mem_singleton.1 hj]; exact hi
  · intro t x hn hx
    rcases putD_get hx with ⟨hdt, hxv⟩ | ⟨hdt, hx'⟩
    · exact hd t x hdt hx
    · refine (h.envs t x (fun j hj oj hoj => ?_) hx').mono (lt_mono hnx)
      rcases List.mem_cons.1 hj with rfl | hj
      · rw [ho] at hoj; cases hoj; exact hdt
      · exact hn j hj oj hoj
  · intro t x hx
    obtain ⟨y, hy⟩ := putD_dom hx
    exact h.size t y hy
  · intro pre i' o' e' τ v' τ' hat' hi'
    exact h.early (.there ho hs hat') hi'
  · intro b L hb hL
    obtain ⟨e1, e2, _⟩ := h.ext b L (Nat.le_trans hnx hb) hL
    exact ⟨e1, e2, hlive b L hb hL⟩
  · intro b b' L L' hb hb'
    exact h.extinj b b' L L' (Nat.le_trans hnx hb) (Nat.le_trans hnx hb')
  · intro b L hb hL
    obtain ⟨pre', i', o', e', τ, v', ob, h1, h2, h3⟩ := h.extat b L (Nat.le_trans hnx hb) hL
    cases h1 with
    | here ho2 hs2 =>
      rw [ho] at ho2; cases ho2
      rw [hs] at hs2; cases hs2
      subst h3
      exact absurd hb (by show ¬ (σ.next + 1 ≤ σ.next); omega)
    | there ho2 hs2 t =>
      rw [ho] at ho2; cases ho2
      rw [hs] at hs2; cases hs2
      exact ⟨_, _, _, _, _, _, _, t, h2, h3⟩
theorem Inv.absorbs (hS0 : Sim C w0 ι0 σ0 wI) : ∀ {pre : List Nat} {env : Env} {σ : LS}, Inv C call ops p w0 wI ι0 σ0 envF σF stF defs listed (pre ++ π) env σ st a w ι → (∀ j ∈ pre, Done listed j) →
    ∃ env' σ', Inv C call ops p w0 wI ι0 σ0 envF σF stF defs listed π env' σ' st a w ι := by
  intro pre
  induction pre with
  | nil => intro env σ h _; exact ⟨env, σ, h⟩
  | cons j pre ih =>
    intro env σ h hd
    obtain ⟨env', σ', h'⟩ := Inv.absorb hS0 h (hd j List.mem_cons_self)
    exact ih h' fun k hk => hd k (List.mem_cons_of_mem _ hk)

/-- the temporaries that the canonical run has in front of an operation, as far as the real run has them -/
theorem Inv.fake (hP : PlanP ops p) (h : Inv C call ops p w0 wI ι0 σ0 envF σF stF defs listed π env σ st a w ι) (hat : At C call ops π env σ pre i o e τ v τ')
    (hready : ∀ j, (maskAt p.tab i).testBit j = true → Done listed j) :
    ∃ env2, EnvR (ι.lt τ.next) env2 a.tmps ∧ (∀ x ∈ o.op.operands, ev1 env2 x = ev1 e x) ∧ wantedL ops env2 o = wantedL ops e o := by
  have hn := h.nodup hP
  obtain ⟨rest, hπ⟩ := hat.split
  let U : List Tmp := (π.filter fun j => !(pre.contains j && listed.getD j false)).filterMap fun j => (ops[j]?).bind (·.dst)
  have hU : ∀ t, t ∉ U → ∀ j ∈ π, ∀ oj, ops[j]? = some oj → oj.dst = some t → j ∈ pre ∧ Done listed j := by
    intro t ht j hj oj hoj hd
    by_cases hc : (pre.contains j && listed.getD j false) = true
    · simp only [Bool.and_eq_true, List.contains_iff_mem] at hc
      exact hc
    · exact absurd (List.mem_filterMap.2 ⟨j, List.mem_filter.2 ⟨hj, by rw [Bool.not_eq_true']; exact Bool.eq_false_iff.2 hc⟩, by simp [hoj, hd]⟩) ht
  have hused : ∀ t ∈ usedBy ops o, t ∉ U := by
    intro t ht hm
    obtain ⟨j, hj, hjt⟩ := List.mem_filterMap.1 hm
    obtain ⟨hjπ, hc⟩ := List.mem_filter.1 hj
    cases hoj : ops[j]? with
    | none => rw [hoj] at hjt; cases hjt
    | some oj =>
      rw [hoj] at hjt
      have hd : oj.dst = some t := hjt
      obtain ⟨done, hd1, hd2⟩ := h.pre
      obtain ⟨hb, hm2⟩ := hP.use (done ++ pre) i rest o (by rw [hd1, hπ]; simp) hat.op j oj t hoj hd ht
      have hjd := hready j hb
      have hjpre : j ∈ pre := by
        rcases List.mem_append.1 hm2 with hm3 | hm3
        · have := hP.nodup
          rw [hd1] at this
          exact absurd rfl ((List.nodup_append.1 this).2.2 j hm3 j hjπ)
        · exact hm3
      have : (pre.contains j && listed.getD j false) = true := by
        simp only [Bool.and_eq_true, List.contains_iff_mem]
        exact ⟨hjpre, hjd⟩
      rw [this] at hc
      cases hc
  refine ⟨clear U e, ?_, ?_, ?_⟩
  · intro t x hx
    obtain ⟨htU, hex⟩ := clear_get hx
    by_cases hw : ∃ j ∈ π, ∃ oj, ops[j]? = some oj ∧ oj.dst = some t
    · obtain ⟨j, hj, oj, hoj, hd⟩ := hw
      obtain ⟨hjpre, hjd⟩ := hU t htU j hj oj hoj hd
      have hnp : pre.Nodup := by rw [hπ] at hn; exact (List.nodup_append.1 hn).1
      obtain ⟨prej, ej, τj, vj, τj', h1, h2, h3⟩ := hat.get1 hjpre hoj (fun k ok hok hdk => hP.dsts k j ok oj t hok hoj hdk hd) hnp hex
      exact ((h.early h1 hjd).2.1 t x hd h2).mono (lt_mono h3)
    · have hw' : ∀ j ∈ π, ∀ oj, ops[j]? = some oj → oj.dst ≠ some t := fun j hj oj hoj hd => hw ⟨j, hj, oj, hoj, hd⟩
      have h0 := hat.get0 (fun j hj => hw' j (by rw [hπ]; exact List.mem_append_left _ hj)) hex
      exact (h.envs t x hw' h0).mono (lt_mono hat.next)
  · intro x hx
    cases x with
    | tmp t =>
      have : t ∈ usedBy ops o := by
        unfold usedBy tmpsOf
        exact List.mem_append_left _ (List.mem_filterMap.2 ⟨.tmp t, by simpa using hx, rfl⟩)
      exact clear_other (hused t this)
    | const c => rfl
    | global g => rfl
    | func f => rfl
  · unfold wantedL
    cases hg : o.guard with
    | none => rfl
    | some jw =>
      obtain ⟨j, want⟩ := jw
      simp only
      cases hoj : ops[j]? with
      | none => rfl
      | some oj =>
        simp only
        cases hd : oj.dst with
        | none => rfl
        | some d =>
          simp only
          have : d ∈ usedBy ops o := by
            unfold usedBy
            refine List.mem_append_right _ ?_
            rw [hg]; simp only [hoj, hd]
            exact List.mem_singleton.2 rfl
          rw [clear_other (hused d this)]
end
end Sd
