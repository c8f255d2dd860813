import Derived.Test.YtfklihbkflblmaaGreatDoorSdCode3
set_option linter.all false
namespace Sd
open Go Go.RowKit
section
variable {C : Ctx} {w0 : World} {B : Nat} {ι : Inj} {σ : LS} {w : World}

/-! ## Calls -/
theorem run_loadVar_rel (hS : Sim C w0 ι σ w) {t : TypeId} {p v p' : Value} (h : loadL C σ t p = some v) (hp : VR ι p p') :
    ∃ v', ((do loadVar t (← asAddr p') : Sem Value)).run C.P w = .ok v' w ∧ VR ι v v' := by
  obtain ⟨v', h1, h2⟩ := run_load_rel hS h hp
  refine ⟨v', ?_, h2⟩
  unfold loadL at h
  split at h
  · cases hp with
    | atom h => simp [atomic] at h
    | ptr ha =>
      simp only [Instr.loadAt, Instr.sureAddr, Sem.run_bind, Sem.run_pure, Result.andThen_ok] at h1
      simp only [asAddr, Sem.run_bind, Sem.run_pure, Result.andThen_ok]
      exact h1
  · cases h
def readR (tmps : Array Value) : ResultVar → Sem Value
  | .tmp t => pure (tmps.getD t undef)
  | .cell a t => do loadVar t (← asAddr (tmps.getD a undef))
theorem result_rel (hS : Sim C w0 ι σ w) {env : Env} {tmps : Array Value} (hE : EnvR ι env tmps) {r : ResultVar} {v : Value} (h : resultL C env σ r = some v) : ∃ v', (readR tmps r).run C.P w = .ok v' w ∧ VR ι v v' := by
  unfold resultL at h
  split at h
  · obtain ⟨v', h1, h2⟩ := hE _ _ h
    exact ⟨v', by simp [readR, h1], h2⟩
  · rename_i a ty
    split at h
    · rename_i p hp
      obtain ⟨p', h1, h2⟩ := hE _ _ hp
      obtain ⟨v', h3, h4⟩ := run_loadVar_rel hS h h2
      refine ⟨v', ?_, h4⟩
      have : tmps.getD a undef = p' := by simp [h1]
      simp only [readR, this]
      exact h3
    · cases h
theorem results_rel (hS : Sim C w0 ι σ w) {env : Env} {tmps : Array Value} (hE : EnvR ι env tmps) : ∀ {rs : List ResultVar} {l : List Value}, resultsAll C env σ rs = some l → ∃ l', (rs.mapM (readR tmps)).run C.P w = .ok l' w ∧ VL ι l l' := by
  intro rs
  induction rs with
  | nil => intro l h; simp [resultsAll] at h; subst h; exact ⟨[], rfl, .nil⟩
  | cons r rs ih =>
    intro l h
    simp only [resultsAll] at h
    split at h
    · rename_i v hv
      split at h
      · rename_i vs hvs
        cases h
        obtain ⟨v', h1, h2⟩ := result_rel hS hE hv
        obtain ⟨l', h3, h4⟩ := ih hvs
        exact ⟨v' :: l', by simp [List.mapM_cons, h1, h3], .cons h2 h4⟩
      · cases h
    · cases h
theorem results_run (hS : Sim C w0 ι σ w) {env : Env} {tmps : Array Value} (hE : EnvR ι env tmps) {fn : Func} {v : Value} (h : resultsL C fn.results.toList env σ = some v) : ∃ v', (results fn tmps).run C.P w = .ok v' w ∧ VR ι v v' := by
  have hres : results fn tmps = (do let vs ← fn.results.mapM (readR tmps); pure (if h : vs.size = 1 then vs[0] else .tuple vs) : Sem Value) := by
    unfold results
    rfl
  rw [hres]
  have hm : fn.results.mapM (readR tmps) = (List.toArray <$> fn.results.toList.mapM (readR tmps) : Sem (Array Value)) := Array.mapM_eq_mapM_toList
  rw [hm]
  unfold resultsL at h
  split at h
  · rename_i r hr
    rw [hr]
    obtain ⟨v', h1, h2⟩ := result_rel hS hE h
    exact ⟨v', by simp [List.mapM_cons, h1], h2⟩
  · rename_i rs hne
    split at h
    · rename_i l hl
      cases h
      obtain ⟨l', h1, h2⟩ := results_rel hS hE hl
      refine ⟨.tuple l'.toArray, ?_, .tuple' (by simpa using h2)⟩
      simp only [Sem.run_bind, Sem.run_map, h1, Result.andThen_ok, Sem.run_pure]
      rw [dif_neg]
      intro e
      have hlen : l'.length = 1 := by simpa using e
      have : fn.results.toList.length = l.length := by
        have key : ∀ {rs : List ResultVar} {l : List Value}, resultsAll C env σ rs = some l → rs.length = l.length := by
          intro rs
          induction rs with
          | nil => intro l h; simp [resultsAll] at h; subst h; rfl
          | cons r rs ih =>
            intro l h
            simp only [resultsAll] at h
            split at h
            · split at h
              · rename_i vs hvs; cases h; simp [ih hvs]
              · cases h
            · cases h
        exact key hl
      rw [h2.length, hlen] at this
      match hrs : fn.results.toList, this with
      | [r], _ => exact hne r hrs
    · cases h

/-! ### the marks are taken -/
theorem sim_kill {w' : World} {b : Nat} {o : LObj} {L : Loc} {ro : Obj} (h : Sim C w0 ι σ w) (hg : σ.heap.get b = some o) (hL : ι b = some L) (ht : Turned w w' L.r ro) : Sim C w0 ι (σ.put b none) w' := by
  have hdL := h.dom b L hL
  refine ⟨?_, ?_, ?_, ?_, h.ro, h.flo⟩
  · exact Below_of_frame h.below ht.os ht.tape ht.output (by rw [ht.size]; exact Nat.le_refl _) fun r hr => ht.other r (by omega)
  · intro x K hx; rw [ht.size]; exact h.dom x K hx
  · intro x ox hx
    rcases get_set _ _ _ _ _ hx with ⟨rfl, h2⟩ | ⟨h1, h2⟩
    · cases h2
    · obtain ⟨K, rx, k1, k2, k3⟩ := h.live x ox h2
      refine ⟨K, rx, k1, ?_, k3⟩
      rw [ht.other _ fun e => h1 (h.inj x b ox o K L h2 hg k1 hL e)]
      exact k2
  · intro x y ox oy K M hx hy hK hM he
    rcases get_set _ _ _ _ _ hx with ⟨_, h2⟩ | ⟨_, hx⟩
    · cases h2
    · rcases get_set _ _ _ _ _ hy with ⟨_, h2⟩ | ⟨_, hy⟩
      · cases h2
      · exact h.inj x y ox oy K M hx hy hK hM he
theorem moved_kill {ι' : Inj} {σ' : LS} {w' w'' : World} (M : Moved C w0 ι σ w ι' σ' w') {d : Nat} {L : Loc} {o : LObj} {ro : Obj} (hg : σ'.heap.get d = some o) (hL : ι' d = some L) (hd : σ.next ≤ d) (hS : Sim C w0 ι σ w) (ht : Turned w' w'' L.r ro) :
    Moved C w0 ι σ w ι' (σ'.put d none) w'' := by
  have hsim := M.sim
  refine ⟨M.le, sim_kill hsim hg hL ht, M.next, by rw [ht.size]; exact M.size, ?_, ?_, ?_, M.fl, M.dfr, ?_, M.news⟩
  · intro r hr hl
    rw [ht.other r, M.frame r hr hl]
    rintro rfl
    rcases M.fresh _ ⟨d, o, L, hg, hL, rfl⟩ with h | h
    · exact hl h
    · omega
  · rintro r ⟨x, ox, K, hx, hK, rfl⟩
    rcases get_set _ _ _ _ _ hx with ⟨_, h2⟩ | ⟨_, h2⟩
    · cases h2
    · exact M.fresh _ ⟨x, ox, K, h2, hK, rfl⟩
  · intro x ox K hx hox hK
    obtain ⟨h1, h2⟩ := M.floor x ox K hx hox hK
    have hne : x ≠ d := by have := hS.flo; omega
    refine ⟨?_, ?_⟩
    · show (σ'.heap.set d none).get x = some ox
      rw [get_set_other _ _ _ _ hne]; exact h1
    · rw [ht.other _ fun e => hne (hsim.inj x d ox o K L h1 hg (M.le _ _ hK) hL e)]; exact h2
  · intro x hx
    have hlt : x < σ.next := by obtain ⟨K, _, hK, _⟩ := hS.live _ _ hx; exact (hS.dom _ _ hK).1
    show (σ'.heap.set d none).get x = some .deferred
    rw [get_set_other _ _ _ _ (by omega)]; exact M.keepD x hx

theorem kill_leaves {fn : Func} {tmps : Array Value} {R : Ending → World → Prop} (hS : Sim C w0 ι σ w) : ∀ {l : List Nat} {ds : List Deferred} {ι' : Inj} {σ' : LS} {w' : World}, Moved C w0 ι σ w ι' σ' w' → DefR σ.next ι' σ' l ds →
    (∀ w'', Moved C w0 ι σ w ι' (killAll σ' l) w'' → LeavesInM Fence.wide 0 C.P fn tmps R [] .returning w'') → LeavesInM Fence.wide 0 C.P fn tmps R ds .returning w' := by
  intro l
  induction l with
  | nil => intro ds ι' σ' w' M hd h; cases hd; exact h w' M
  | cons d l ih =>
    intro ds ι' σ' w' M hd h
    cases hd with
    | cons hL hg hB ho t =>
      rename_i L ds
      obtain ⟨L', ro, h1, h2, h3⟩ := M.sim.live _ _ hg
      rw [hL] at h1; cases h1
      cases h3 with
      | deferred =>
        refine ⟨by simp, .inl ⟨L.r, _, rfl, run_takeDeferred h2, ?_⟩⟩
        have M2 := moved_kill M hg hL hB hS (turned_set w' L.r _ (.deferred none) h2)
        refine ih M2 ?_ h
        have hmem : d ∉ l := fun hm => Nat.lt_irrefl _ (ho d hm)
        have : ∀ {l : List Nat} {ds : List Deferred}, d ∉ l → DefR σ.next ι' σ' l ds → DefR σ.next ι' (σ'.put d none) l ds := by
          intro l
          induction l with
          | nil => intro ds _ h; cases h; exact .nil
          | cons x l ih =>
            intro ds hn h
            cases h with
            | cons hL2 hg2 hB2 ho2 t2 =>
              refine .cons hL2 ?_ hB2 ho2 (ih (fun hm => hn (List.mem_cons_of_mem _ hm)) t2)
              show (σ'.heap.set d none).get x = some .deferred
              rw [get_set_other _ _ _ _ (fun e => hn (by rw [← e]; exact List.mem_cons_self))]; exact hg2
        exact this hmem t

/-! ### quiet functions, memo -/
theorem moved_back {ι' : Inj} {σ' : LS} {w' : World} (hS : Sim C w0 ι σ w) (hfl : σ.floor = σ.next) (M : Moved C w0 ι σ w ι' σ' w') : ∀ r, Live ι σ r → w'.heap[r]? = w.heap[r]? := by
  rintro r ⟨b, o, L, h1, h2, rfl⟩
  exact (M.floor b o L (by rw [hfl]; exact (hS.dom _ _ h2).1) h1 h2).2
/-- everything that was there stands as it stood -/
theorem moved_stay {w' : World} (hS : Sim C w0 ι σ w) (hb : Below w0.heap.size w0 w') (hsz : w.heap.size ≤ w'.heap.size) (hf : ∀ r, r < w.heap.size → w'.heap[r]? = w.heap[r]?) : Moved C w0 ι σ w ι σ w' := by
  have hsim : Sim C w0 ι σ w' := by
    refine ⟨hb, fun b L h => ?_, fun b o h => ?_, hS.inj, hS.ro, hS.flo⟩
    · have := hS.dom b L h; omega
    · obtain ⟨L, ro, h1, h2, h3⟩ := hS.live b o h
      exact ⟨L, ro, h1, by rw [hf _ (hS.dom _ _ h1).2.2]; exact h2, h3⟩
  exact ⟨ι.le_refl, hsim, Nat.le_refl _, hsz, fun r hr _ => hf r hr, fun r h => .inl h, fun b o L _ h1 h2 => ⟨h1, hf _ (hS.dom _ _ h2).2.2⟩, rfl, rfl, fun d h => h, fun _ _ h => .inl h⟩
theorem quiet_back {ι' : Inj} {σ' : LS} {w' : World} {d : List Nat} (hS : Sim C w0 ι σ w) (M : Moved C w0 ι { σ with dfr := d, floor := σ.next } w ι' σ' w') : Moved C w0 ι σ w ι σ w' := by
  have hS' : Sim C w0 ι { σ with dfr := d, floor := σ.next } w := ⟨hS.below, hS.dom, hS.live, hS.inj, hS.ro, Nat.le_refl _⟩
  have hl := moved_back hS' rfl M
  refine moved_stay hS M.sim.below M.size fun r hr => ?_
  by_cases h : Live ι σ r
  · exact hl r h
  · exact M.frame r hr h

theorem veqA_eq {a b : Value} (h : veqA a b = true) : a = b := by
  unfold veqA at h
  split at h
  · rw [eq_of_beq h]
  · simp only [Bool.and_eq_true] at h
    rw [kindNo_inj h.1, eq_of_beq ((eqI_eq _ _).symm.trans h.2)]
  · rename_i a b
    have := eq_of_beq h
    obtain ⟨⟨x⟩⟩ := a
    obtain ⟨⟨y⟩⟩ := b
    simp only at this
    rw [this]
  · rw [of_decide_eq_true h]
  · simp only [Bool.and_eq_true] at h
    rw [of_decide_eq_true h.1.1, Nat.eq_of_beq_eq_true h.1.2, Nat.eq_of_beq_eq_true h.2]
  · rw [of_decide_eq_true h]
  · rfl
  · rfl
  · simp only [Bool.and_eq_true] at h
    rw [Nat.eq_of_beq_eq_true h.1, of_decide_eq_true h.2]
  · rw [Nat.eq_of_beq_eq_true h]
  · rw [Nat.eq_of_beq_eq_true h]
  · cases h
theorem veqL_eq : ∀ {a b : List Value}, veqL a b = true → a = b
  | [], [], _ => rfl
  | x :: l, y :: m, h => by
    simp only [veqL, Bool.and_eq_true] at h
    rw [veqA_eq h.1, veqL_eq h.2]
  | [], _ :: _, h => by simp [veqL] at h
  | _ :: _, [], h => by simp [veqL] at h
theorem veq_eq {a b : Value} (h : veq a b = true) : a = b := by
  unfold veq at h
  split at h
  · rename_i a b
    have := veqL_eq h
    obtain ⟨a⟩ := a
    obtain ⟨b⟩ := b
    simp only at this
    rw [this]
  · rename_i a b
    have := veqL_eq h
    obtain ⟨a⟩ := a
    obtain ⟨b⟩ := b
    simp only at this
    rw [this]
  · exact veqA_eq h
theorem allSame_spec : ∀ {l : List (Value × LS)} {v : Value}, allSame l = some v → flat v = true ∧ ∀ x ∈ l, x.1 = v := by
  intro l
  induction l with
  | nil => intro v h; simp [allSame] at h
  | cons x l ih =>
    intro v h
    obtain ⟨u, σ⟩ := x
    cases l with
    | nil =>
      simp only [allSame] at h
      split at h
      · rename_i hf
        cases h
        refine ⟨hf, fun y hy => ?_⟩
        rcases List.mem_cons.1 hy with rfl | hy
        · rfl
        · cases hy
      · cases h
    | cons y l =>
      simp only [allSame] at h
      split at h
      · rename_i t ht
        split at h
        · rename_i hc
          simp only [Bool.and_eq_true] at hc
          cases h
          obtain ⟨_, h2⟩ := ih (v := t) ht
          have := veq_eq hc.2
          subst this
          refine ⟨hc.1, fun z hz => ?_⟩
          rcases List.mem_cons.1 hz with rfl | hz
          · rfl
          · exact h2 z hz
        · cases h
      · cases h

def MemoOK (C : Ctx) : Prop := ∀ (f : FuncId) (args : List Value) (v : Value), memoAt C f args = some v → (∃ fn, C.P.funcs[f]? = some fn ∧ fn.body.isSome = true) ∧ ∀ w, RoOK C w → Calls C.P f args.toArray w fun e w' => e = .returned v ∧ Below w.heap.size w w'
def ExtOK (C : Ctx) (w0 : World) : Prop := ∀ {ι : Inj} {σ : LS} {w : World} {f : FuncId} {x : Ext} {args args' : List Value} {l : List (Value × LS)} {K : Value → World → Prop}, C.ext f = some x → Sim C w0 ι σ w → VL ι args args' → one (extL C σ x args) = some l → Goal C w0 ι σ w l K →
  UponV C.P K ((callFunc f args'.toArray).run C.P w)
theorem RoOK.later {w' : World} (h : RoOK C w0) (hb : Below w0.heap.size w0 w') : RoOK C w' := by
  intro r c hr
  obtain ⟨cs, e, fz, h1, h2⟩ := h r c hr
  have hlt : r < w0.heap.size := (Array.getElem?_eq_some_iff.1 h1).1
  exact ⟨cs, e, fz, by rw [hb.block _ hlt]; exact h1, h2⟩

theorem allFlat_eq : ∀ {l l' : List Value}, VL ι l l' → allFlat l = true → l' = l := by
  intro l l' h
  induction h with
  | nil => intro _; rfl
  | cons h t ih =>
    intro hf
    simp only [allFlat] at hf
    split at hf
    · rename_i h1; rw [h.flat_eq h1, ih hf]
    · cases hf

theorem VR.flat2_eq {v v' : Value} (h : VR ι v v') (hf : flat2 v = true) : v' = v := by
  unfold flat2 at hf
  split at hf
  · cases h with
    | tuple hs pa =>
      have := allFlat_eq (VL.of_arr hs pa) hf
      rw [Array.toList_inj.1 this]
    | atom h => rfl
  · exact h.flat_eq hf
theorem allFlat_VL : ∀ {l : List Value}, allFlat l = true → VL ι l l := by
  intro l
  induction l with
  | nil => intro _; exact .nil
  | cons a l ih =>
    intro h
    simp only [allFlat] at h
    split at h
    · rename_i h1; exact .cons (.of_flat h1) (ih h)
    · cases h
theorem VR.of_flat2 {v : Value} (hf : flat2 v = true) : VR ι v v := by
  unfold flat2 at hf
  split at hf
  · exact .tuple' (allFlat_VL hf)
  · exact .of_flat hf
theorem memo_sound (hN : NamesOK C.P) (hMemo : MemoOK C) {f : FuncId} {args args' : List Value} {v : Value} {K : Value → World → Prop} (hS : Sim C w0 ι σ w) (ha : VL ι args args') (h : memoAt C f args = some v) (hK : Goal C w0 ι σ w [(v, σ)] K) :
    UponV C.P K ((callFunc f args'.toArray).run C.P w) := by
  obtain ⟨⟨fn, hf, hb⟩, hcall⟩ := hMemo f args v h
  have hfl : flat2 v = true ∧ allFlat args = true := by
    unfold memoAt at h
    split at h
    · split at h
      · rename_i hc; cases h; simpa using hc
      · cases h
    · cases h
  rw [allFlat_eq ha hfl.2, callFunc_enter hN hf hb]
  show Calls C.P f args.toArray w fun e w'' => ∃ v, e = .returned v ∧ K v w''
  refine Calls.mono (hcall w (hS.ro.later hS.below)) ?_
  rintro e w' ⟨rfl, hB⟩
  refine ⟨v, rfl, hK.one (moved_stay hS (hS.below.trans (hB.mono ?_)) hB.size fun r hr => hB.block r hr) (.of_flat2 hfl.1)⟩
  exact hS.below.size
end
end Sd
