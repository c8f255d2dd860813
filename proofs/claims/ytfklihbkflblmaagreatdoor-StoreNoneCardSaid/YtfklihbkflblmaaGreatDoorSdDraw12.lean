import Derived.Test.YtfklihbkflblmaaGreatDoorSdDraw11
set_option linter.all false
namespace Sd
open Go Go.RowKit
section
variable {C : Ctx} {call : CallF} {ops : Array Oper} {p : Plan} {w0 wI : World} {ι0 : Inj} {σ0 : LS} {envF : Env} {σF : LS} {stF : List LS} {defs : List Deferred}

theorem mem_onsOf {o : Oper} {k : Nat} : k ∈ onsOf o ↔ ∃ e ∈ o.after, Region.binds .any e = true ∧ e.on = k := by
  unfold onsOf
  simp only [List.mem_map, List.mem_filter, Array.mem_toList_iff]
  exact ⟨fun ⟨e, ⟨h1, h2⟩, h3⟩ => ⟨e, h1, h2, h3⟩, fun ⟨e, h1, h2, h3⟩ => ⟨e, ⟨h1, h2⟩, h3⟩⟩
def undone (listed : Array Bool) (n : Nat) : Nat := ((List.range n).filter fun i => !listed.getD i false).length
theorem undone_set {listed : Array Bool} {n i : Nat} (hi : i < n) (hsz : i < listed.size) (hnot : ¬ Done listed i) : undone (listed.setIfInBounds i true) n < undone listed n := by
  unfold undone
  have key : ∀ l : List Nat, (l.filter fun j => !(listed.setIfInBounds i true).getD j false).length ≤ (l.filter fun j => !listed.getD j false).length ∧ (i ∈ l → (l.filter fun j => !(listed.setIfInBounds i true).getD j false).length < (l.filter fun j => !listed.getD j false).length) := by
    intro l
    induction l with
    | nil => simp
    | cons j l ih =>
      by_cases hji : j = i
      · subst hji
        have h1 : (listed.setIfInBounds j true).getD j false = true := (done_set hsz).2 (.inr rfl)
        have h2 : listed.getD j false = false := by simpa [Done] using hnot
        simp only [List.filter_cons, h1, h2]
        simp only [Bool.not_true, Bool.not_false, Bool.false_eq_true, if_false, if_true, List.length_cons]
        exact ⟨by omega, fun _ => by omega⟩
      · have h1 : (listed.setIfInBounds i true).getD j false = listed.getD j false := by
          rw [Bool.eq_iff_iff]
          exact (done_set hsz).trans ⟨fun h => h.resolve_right hji, .inl⟩
        simp only [List.filter_cons, h1]
        split
        · simp only [List.length_cons]
          refine ⟨by omega, fun hm => ?_⟩
          rcases List.mem_cons.1 hm with hm | hm
          · exact absurd hm.symm hji
          · have := ih.2 hm; omega
        · refine ⟨ih.1, fun hm => ?_⟩
          rcases List.mem_cons.1 hm with hm | hm
          · exact absurd hm.symm hji
          · exact ih.2 hm
  exact (key _).2 (List.mem_range.2 hi)

theorem draw_run {F : Fence} (hF : Wide F) {n : Nat} {Q : Exit → Act → World → Prop} (hC : CallOK C w0 call) (hP : PlanP ops p) (hS0 : Sim C w0 ι0 σ0 wI) (hl : loadsAgree C ops envF stF p.late = true)
    (hQ : ∀ ι' a' w', Moved C w0 ι0 σ0 wI ι' σF w' → EnvR ι' envF a'.tmps → a'.defers = defs → Q .normal a' w') :
    ∀ (fuel : Nat) {listed : Array Bool} {π : List Nat} {env : Env} {σ : LS} {st : List LS} {a : Act} {w : World} {ι : Inj}, Inv C call ops p w0 wI ι0 σ0 envF σF stF defs listed π env σ st a w ι → Stage ops p π σ st → Closed ops listed → listed.size = ops.size → undone listed ops.size ≤ fuel →
      wpAnyIn F n C.P .any ops Q fuel listed a w := by
  -- when all is done
  have fin : ∀ {listed : Array Bool} {π : List Nat} {env : Env} {σ : LS} {st : List LS} {a : Act} {w : World} {ι : Inj}, Inv C call ops p w0 wI ι0 σ0 envF σF stF defs listed π env σ st a w ι → (∀ i, i < ops.size → Done listed i) → Q .normal a w := by
    intro listed π env σ st a w ι h hall
    have hπ : ∀ j ∈ π, Done listed j := fun j hj => by
      obtain ⟨done, h1, _⟩ := h.pre
      exact hall j (hP.inside j (by rw [h1]; exact List.mem_append_right _ hj))
    obtain ⟨env', σ', h'⟩ := Inv.absorbs (π := []) hS0 (pre := π) (by simpa using h) hπ
    have hlF := h'.line
    simp only [evLine] at hlF
    cases hlF
    refine hQ (ι.lt σF.next) a w h'.moved (fun t x hx => ?_) h'.defers
    exact h'.envs t x (fun j hj => by cases hj) hx
  have ready0 : ∀ {listed : Array Bool}, listed.size = ops.size → Region.ready .any ops listed = [] → ∀ i, i < ops.size → Done listed i := by
    intro listed hsz hr i
    induction i using Nat.strongRecOn with
    | _ i ih =>
      intro hi
      by_cases hd : Done listed i
      · exact hd
      · have hoi : ops[i]? = some ops[i] := Array.getElem?_eq_getElem hi
        have : i ∈ Region.ready .any ops listed := by
          refine mem_ready.2 ⟨?_, ops[i], hoi, fun e he hb => ?_⟩
          · have hlt : i < listed.size := by omega
            have : listed.getD i false = false := by simpa [Done] using hd
            simpa [hlt] using this
          · exact ih e.on (hP.back i _ hoi e.on (mem_onsOf.2 ⟨e, he, hb, rfl⟩)) (by have := hP.back i _ hoi e.on (mem_onsOf.2 ⟨e, he, hb, rfl⟩); omega)
        rw [hr] at this; cases this
  intro fuel
  induction fuel with
  | zero =>
    intro listed π env σ st a w ι h hst hcl hsz hun
    have hall : ∀ i, i < ops.size → Done listed i := by
      intro i hi
      by_cases hd : Done listed i
      · exact hd
      · have := undone_set hi (by omega) hd
        omega
    refine ⟨?_, fin h hall⟩
    cases hr : Region.ready .any ops listed with
    | nil => rfl
    | cons i l =>
      have hm : i ∈ Region.ready .any ops listed := by rw [hr]; exact List.mem_cons_self
      obtain ⟨h1, o, ho, _⟩ := mem_ready.1 hm
      have hi : i < ops.size := (Array.getElem?_eq_some_iff.1 ho).1
      have h2 := hall i hi
      have hlt : i < listed.size := by omega
      have h2 : listed.getD i false = true := h2
      simp [hlt] at h1 h2
      rw [h1] at h2; cases h2
  | succ fuel ih =>
    intro listed π env σ st a w ι h hst hcl hsz hun
    refine ⟨fun hr => fin h (ready0 hsz hr), fun i hi => ?_⟩
    obtain ⟨h1, o, ho, hons⟩ := mem_ready.1 hi
    have hisz : i < ops.size := (Array.getElem?_eq_some_iff.1 ho).1
    have hlt : i < listed.size := by omega
    have hnot : ¬ Done listed i := by
      intro hd
      have hd : listed.getD i false = true := hd
      simp [hlt] at h1 hd
      rw [h1] at hd; cases hd
    have honsD : ∀ k ∈ onsOf o, Done listed k := fun k hk => by
      obtain ⟨e, he, hb, rfl⟩ := mem_onsOf.1 hk
      exact hons e he hb
    have hready : ∀ j, (maskAt p.tab i).testBit j = true → Done listed j := hP.closed (Done listed) hcl i o ho honsD
    have hcl' : Closed ops (listed.setIfInBounds i true) := by
      intro j oj hj hoj e he
      rcases (done_set hlt).1 hj with hj | rfl
      · exact (done_set hlt).2 (.inl (hcl j oj hj hoj e he))
      · rw [ho] at hoj; cases hoj
        exact (done_set hlt).2 (.inl (honsD e he))
    have hsz' : (listed.setIfInBounds i true).size = ops.size := by simpa using hsz
    have hun' : undone (listed.setIfInBounds i true) ops.size ≤ fuel := by
      have := undone_set hisz hlt hnot
      omega
    -- it is still to come in the canonical run
    have hiπ : i ∈ π := by
      obtain ⟨done, hd1, hd2⟩ := h.pre
      have := hP.cover i hisz
      rw [hd1] at this
      rcases List.mem_append.1 this with hm | hm
      · exact absurd (hd2 i hm) hnot
      · exact hm
    by_cases hM : isM o.op = true
    · obtain ⟨pre, rest, hπ⟩ := List.append_of_mem hiπ
      subst hπ
      obtain ⟨done, older, hd1, hd2, hd3⟩ := hst
      have hpre : ∀ j ∈ pre, Done listed j := fun j hj => hready j (hP.turn (done ++ pre) i rest o (by rw [hd1]; simp) ho hM j (List.mem_append_right _ hj))
      obtain ⟨env', σ', h'⟩ := Inv.absorbs (π := i :: rest) hS0 h hpre
      refine h'.turns hF hC hP ho hM hlt hnot hready fun env2 σ2 a2 w2 ι2 hinv => ih hinv ?_ hcl' hsz' hun'
      refine ⟨done ++ pre ++ [i], st, by rw [hd1]; simp, rfl, ?_⟩
      -- nothing in front of it turns anything
      have hnone : pre.filter (fun i => isM (opAt ops i)) = [] := by
        rw [List.filter_eq_nil_iff]
        intro j hj
        obtain ⟨pre2, o2, e2, τ2, v2, τ2', h2⟩ := at_of_mem h.line j (List.mem_append_left _ hj)
        have := (h.early h2 (hpre j hj)).1
        simp [opAt, h2.op, this]
      rw [hd2, List.filter_append, List.filter_append, hnone]
      simp [hd3, opAt, ho, hM]
    · have hM : isM o.op = false := by simpa using hM
      obtain ⟨pre, o2, e, τ, v, τ', hat⟩ := at_of_mem h.line i hiπ
      have : o2 = o := by have := hat.op; rw [ho] at this; cases this; rfl
      subst this
      exact h.still hF hC hP hS0 hat hM hlt hnot hready (fun hL hw => h.looks hP hl hst hcl hat hnot hready hL hw) fun a' w' ι' hinv => ih hinv hst hcl' hsz' hun'

theorem not_done_new (n i : Nat) : ¬ Done (Array.replicate n false) i := by
  unfold Done
  by_cases h : i < n
  · simp [h]
  · rw [Array.getD_eq_getD_getElem?, Array.getElem?_eq_none (by simpa using h)]; simp
/-- **A region that draws its order**, whichever it draws -/
theorem draw_sound (hC : CallOK C w0 call) : DrawOK C w0 call := by
  intro F n ops env σ ι w a l Q hF hS hE h hG
  unfold evDraw at h
  split at h
  · rename_i hp
    have hP := planP hp
    unfold drawRun at h
    split at h
    · rename_i envF σF stF hline
      split at h
      · rename_i hl
        cases h
        have hS' : Sim C w0 ι σ w.drew := hS.same (.drew w)
        have hιlt : ι.lt σ.next = ι := by
          funext b
          unfold Inj.lt
          split
          · rfl
          · rename_i hb
            cases hc : ι b with
            | none => rfl
            | some L => exact absurd (hS.dom b L hc).1 hb
        refine draw_run hF hC hP hS' hl (ι0 := ι) (σ0 := σ) (wI := w.drew) (envF := envF) (σF := σF) (defs := a.defers) ?_ ops.size (π := (planOf ops).order) (env := env) (σ := σ) (st := [σ]) (ι := ι) ?_ ?_ ?_ (by simp) ?_
        · intro ι' a' w' hm hE' hd
          exact hG envF σF (List.mem_singleton.2 rfl) ι' a' w' ((Moved.same hS (.drew w)).trans hm) hE' hd
        · refine ⟨⟨[], rfl, fun i hi => by cases hi⟩, hline, by rw [hιlt]; exact .refl hS', ?_, ?_, ?_, ?_, ?_, ?_, rfl⟩
          · intro t x _ hx
            rw [hιlt]; exact hE t x hx
          · intro t x hx
            obtain ⟨v', h1, _⟩ := hE t x hx
            exact (Array.getElem?_eq_some_iff.1 h1).1
          · intro pre i o e τ v τ' _ hd
            exact absurd hd (not_done_new _ _)
          · intro b L hb hL; have := (hS.dom b L hL).1; omega
          · intro b b' L L' hb hb' hL; have := (hS.dom b L hL).1; omega
          · intro b L hb hL; have := (hS.dom b L hL).1; omega
        · exact ⟨[], [], rfl, rfl, rfl⟩
        · intro i o hd; exact absurd hd (not_done_new _ _)
        · unfold undone
          exact Nat.le_trans (List.length_filter_le _ _) (by simp)
      · cases h
    · cases h
  · cases h
end
end Sd
