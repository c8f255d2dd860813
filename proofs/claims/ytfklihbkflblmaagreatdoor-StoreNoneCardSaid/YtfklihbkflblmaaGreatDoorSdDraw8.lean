import Derived.Test.YtfklihbkflblmaaGreatDoorSdDraw7
set_option linter.all false
namespace Sd
open Go Go.RowKit
section
variable {C : Ctx} {call : CallF} {ops : Array Oper} {p : Plan} {w0 wI : World} {ι0 : Inj} {σ0 : LS} {envF : Env} {σF : LS} {stF : List LS} {defs : List Deferred}
variable {listed : Array Bool} {π pre rest : List Nat} {env e : Env} {σ τ τ' : LS} {st : List LS} {a : Act} {w w' : World} {ι ι1 ι' : Inj} {i : Nat} {o : Oper} {v v' : Value}

theorem full_set (α : Type) (x : α) : ∀ (d n : Nat), n < d → ((T.full d : T α).set n (some x)).get n = some x := by
  intro d
  induction d with
  | zero => intro n h; omega
  | succ d ih =>
    intro n h
    show ((T.node (T.full d) none (T.full d) : T α).set n (some x)).get n = some x
    rcases n with _ | k
    · rw [set_zero]; rfl
    · rcases Nat.mod_two_eq_zero_or_one k with hk | hk
      · rw [set_even _ _ _ _ _ hk, get_even _ _ _ _ hk]; exact ih _ (by omega)
      · rw [set_odd _ _ _ _ _ hk, get_odd _ _ _ _ hk]; exact ih _ (by omega)
theorem done_set {i j : Nat} (hsz : i < listed.size) : Done (listed.setIfInBounds i true) j ↔ Done listed j ∨ j = i := by
  unfold Done
  by_cases h : i = j
  · subst h; simp [hsz]
  · rw [getD_set_ne false h]
    exact ⟨.inl, fun k => k.elim id fun e => absurd e.symm h⟩
theorem put_other {t : Tmp} (h : o.dst ≠ some t) : (a.put o.dst v').tmps[t]? = a.tmps[t]? := by
  cases hd : o.dst with
  | none => rfl
  | some d =>
    have : d ≠ t := fun e => h (by rw [hd, e])
    simp [Act.put, Array.getElem?_setIfInBounds_ne this]
theorem put_same {t : Tmp} (h : o.dst = some t) (hs : t < a.tmps.size) : (a.put o.dst v').tmps[t]? = some v' := by
  rw [h]; simp [Act.put, hs]
theorem put_size : (a.put o.dst v').tmps.size = a.tmps.size := by cases o.dst <;> simp [Act.put]
/-- two places in the line: one lies in front of the other -/
theorem At.order {pre2 : List Nat} {j : Nat} {oj : Oper} {ej : Env} {τj τj' : LS} {vj : Value} (h : At C call ops π env σ pre i o e τ v τ') (k : At C call ops π env σ pre2 j oj ej τj vj τj') (hne : i ≠ j) : τ'.next ≤ τj.next ∨ τj'.next ≤ τ.next := by
  induction h generalizing pre2 with
  | here ho hs =>
    cases k with
    | here ho2 hs2 => exact absurd rfl hne
    | there ho2 hs2 t =>
      rw [ho] at ho2; cases ho2
      rw [hs] at hs2; cases hs2
      exact .inl t.next
  | there ho hs t ih =>
    cases k with
    | here ho2 hs2 =>
      rw [ho] at ho2; cases ho2
      rw [hs] at hs2; cases hs2
      exact .inr t.next
    | there ho2 hs2 t2 =>
      rw [ho] at ho2; cases ho2
      rw [hs] at hs2; cases hs2
      exact ih t2 hne
theorem new_ne (τ : LS) (ob : LObj) : τ ≠ τ.new ob := fun e => by
  have : τ.next = τ.next + 1 := congrArg LS.next e
  omega

/-- an operation that turns nothing has run, ahead of its time -/
theorem Inv.update (hP : PlanP ops p) (h : Inv C call ops p w0 wI ι0 σ0 envF σF stF defs listed π env σ st a w ι) (hat : At C call ops π env σ pre i o e τ v τ') (hM : isM o.op = false) (hsz : i < listed.size)
    (u1 : ι.le ι') (u2 : ∀ b L, ι' b = some L → ι b = some L ∨ (b = τ.next ∧ w.heap.size ≤ L.r ∧ L.r < w'.heap.size ∧ ∃ ob, τ' = τ.new ob)) (u3 : VR (ι'.lt τ'.next) v v')
    (u4 : w.heap.size ≤ w'.heap.size) (u5 : ∀ r, r < w.heap.size → w'.heap[r]? = w.heap[r]?) (u6 : Below w0.heap.size w0 w')
    (u7 : (∃ ob, τ' = τ.new ob) → ∃ ob L ro, τ' = τ.new ob ∧ ι' τ.next = some L ∧ w'.heap[L.r]? = some ro ∧ ObjR C.P (ι'.lt τ'.next) L ob ro) :
    Inv C call ops p w0 wI ι0 σ0 envF σF stF defs (listed.setIfInBounds i true) π env σ st (a.put o.dst v') w' ι' := by
  have hn := h.nodup hP
  have hτ := hat.next
  have hlt : ι'.lt σ.next = ι.lt σ.next := by
    funext b
    unfold Inj.lt
    split
    · rename_i hb
      cases hv : ι' b with
      | none =>
        cases hv2 : ι b with
        | none => rfl
        | some L => rw [u1 _ _ hv2] at hv; cases hv
      | some L =>
        rcases u2 b L hv with h1 | ⟨h1, _⟩
        · exact h1.symm
        · omega
    · rfl
  have hold : ∀ t x, o.dst ≠ some t → Rel ι0 a.tmps t x → Rel ι0 (a.put o.dst v').tmps t x := fun t x hd ⟨y, h1, h2⟩ => ⟨y, by rw [put_other hd]; exact h1, h2⟩
  have hrel : ∀ {κ : Inj} t x, o.dst ≠ some t → Rel κ a.tmps t x → Rel κ (a.put o.dst v').tmps t x := fun t x hd ⟨y, h1, h2⟩ => ⟨y, by rw [put_other hd]; exact h1, h2⟩
  have hiπ : i ∈ π := by obtain ⟨rest, hr⟩ := hat.split; rw [hr]; exact List.mem_append_right _ List.mem_cons_self
  refine ⟨?_, h.line, ?_, ?_, ?_, ?_, ?_, ?_, ?_, by rw [put_defers]; exact h.defers⟩
  · obtain ⟨done, h1, h2⟩ := h.pre
    exact ⟨done, h1, fun j hj => (done_set hsz).2 (.inl (h2 j hj))⟩
  · rw [hlt]
    exact h.moved.trans (moved_stay h.moved.sim u6 u4 u5)
  · intro t x hw hx
    rw [hlt]
    exact hrel t x (hw i hiπ o hat.op) (h.envs t x hw hx)
  · intro t x hx
    rw [put_size]; exact h.size t x hx
  · intro pre2 j oj ej τj vj τj' hatj hj
    by_cases hji : j = i
    · subst hji
      obtain ⟨rfl, rfl, rfl, rfl, rfl, rfl⟩ := hat.unique hn hatj
      refine ⟨hM, fun d x hd hx => ?_, u7⟩
      obtain ⟨y, hy⟩ := putD_dom hx
      obtain ⟨y2, hy2⟩ := hat.dom hy
      rcases putD_get hx with ⟨_, rfl⟩ | ⟨hc, _⟩
      · exact ⟨v', put_same hd (h.size d y2 hy2), u3⟩
      · exact absurd hd hc
    · have hj' : Done listed j := ((done_set hsz).1 hj).resolve_right hji
      obtain ⟨e1, e2, e3⟩ := h.early hatj hj'
      refine ⟨e1, fun d x hd hx => ?_, fun hob => ?_⟩
      · exact hrel d x (fun hd2 => hji (hP.dsts j i oj o d hatj.op hat.op hd hd2)) ((e2 d x hd hx).mono (lt_le u1))
      · obtain ⟨ob, L, ro, k0, k1, k2, k3⟩ := e3 hob
        have := (h.ext τj.next L hatj.next k1).2.1
        exact ⟨ob, L, ro, k0, u1 _ _ k1, by rw [u5 _ this]; exact k2, k3.mono (lt_le u1)⟩
  · intro b L hb hL
    rw [hlt]
    rcases u2 b L hL with hL | ⟨rfl, k1, k2, _⟩
    · obtain ⟨e1, e2, e3⟩ := h.ext b L hb hL
      exact ⟨e1, Nat.lt_of_lt_of_le e2 u4, e3⟩
    · refine ⟨Nat.le_trans h.moved.size k1, k2, ?_⟩
      rintro ⟨x, ox, K, hx, hK, hr⟩
      have := (h.moved.sim.dom x K hK).2.2
      omega
  · intro b b' L L' hb hb' hL hL' he
    rcases u2 b L hL with hL | ⟨h1, k1, k2, _⟩ <;> rcases u2 b' L' hL' with hL' | ⟨h2, k3, k4, _⟩
    · exact h.extinj b b' L L' hb hb' hL hL' he
    · have := (h.ext b L hb hL).2.1; omega
    · have := (h.ext b' L' hb' hL').2.1; omega
    · omega
  · intro b L hb hL
    rcases u2 b L hL with hL | ⟨rfl, _, _, ob, rfl⟩
    · obtain ⟨pre', i', o', e', τ2, v2, ob, h1, h2, h3⟩ := h.extat b L hb hL
      exact ⟨pre', i', o', e', τ2, v2, ob, h1, (done_set hsz).2 (.inl h2), h3⟩
    · exact ⟨_, _, _, _, _, _, _, hat, (done_set hsz).2 (.inr rfl), rfl⟩

/-- what the run of such an operation in a made-up state tells -/
theorem Inv.ran (hP : PlanP ops p) (h : Inv C call ops p w0 wI ι0 σ0 envF σF stF defs listed π env σ st a w ι) (hat : At C call ops π env σ pre i o e τ v τ') (hM : isM o.op = false) (hsz : i < listed.size) (hnot : ¬ Done listed i)
    {φ φ' : LS} (hφn : φ.next = τ.next) (hφf : φ.floor = φ.next) (hφ : Sim C w0 (ι.lt τ.next) φ w) (hres : (φ' = φ ∧ τ' = τ) ∨ ∃ ob, τ' = τ.new ob ∧ φ' = φ.new ob ∧ (φ.new ob).heap.get τ.next = some ob)
    (hmv : Moved C w0 (ι.lt τ.next) φ w ι1 φ' w') (hv : VR ι1 v v') : ∃ ι', Inv C call ops p w0 wI ι0 σ0 envF σF stF defs (listed.setIfInBounds i true) π env σ st (a.put o.dst v') w' ι' := by
  have hφ'n : φ'.next = τ'.next := by
    rcases hres with ⟨rfl, rfl⟩ | ⟨ob, rfl, rfl, _⟩
    · exact hφn
    · show φ.next + 1 = τ.next + 1; rw [hφn]
  have hdom1 : ∀ b L, ι1 b = some L → b < τ'.next := fun b L hb => by rw [← hφ'n]; exact (hmv.sim.dom b L hb).1
  -- the id of a block that is laid is not yet in use
  have hfree : ∀ ob, τ' = τ.new ob → ι τ.next = none := by
    intro ob hob
    cases hc : ι τ.next with
    | none => rfl
    | some L =>
      obtain ⟨pre', i', o', e', τ2, v2, ob2, h1, h2, h3⟩ := h.extat τ.next L hat.next hc
      have hne : i ≠ i' := fun hc => hnot (hc ▸ h2)
      rcases hat.order h1 hne with h4 | h4
      · rw [hob] at h4
        have : τ.next + 1 ≤ τ2.next := h4
        omega
      · have : τ2.next + 1 ≤ τ.next := h4
        omega
  let ι' : Inj := fun b => match ι1 b with | some L => some L | none => ι b
  have hι1 : ι1.le ι' := fun b L hb => by show (match ι1 b with | some L => some L | none => ι b) = some L; rw [hb]
  have hsplit : ∀ b L, ι' b = some L → ι1 b = some L ∨ ι b = some L := by
    intro b L hb
    have hb : (match ι1 b with | some L => some L | none => ι b) = some L := hb
    cases hc : ι1 b with
    | none => rw [hc] at hb; exact .inr hb
    | some K => rw [hc] at hb; exact .inl hb
  have hnew : ∀ b L, ι1 b = some L → ι b = some L ∨ (b = τ.next ∧ w.heap.size ≤ L.r ∧ L.r < w'.heap.size ∧ ∃ ob, τ' = τ.new ob) := by
    intro b L hb
    rcases hmv.news b L hb with h1 | h1
    · exact .inl (lt_some.1 h1).2
    · have hlt := hdom1 b L hb
      rw [hφn] at h1
      rcases hres with ⟨rfl, rfl⟩ | ⟨ob, rfl, rfl, hget⟩
      · omega
      · have : b = τ.next := by have : b < τ.next + 1 := hlt; omega
        subst this
        refine .inr ⟨rfl, ?_, (hmv.sim.dom _ _ hb).2.2, ob, rfl⟩
        rcases hmv.fresh L.r ⟨τ.next, ob, L, hget, hb, rfl⟩ with h2 | h2
        · obtain ⟨x, ox, K, hx, hK, hr⟩ := h2
          have hxl := (lt_some.1 hK).1
          have hK' := hmv.le _ _ hK
          -- two living blocks at one place: both stand behind the step
          have hx' : (φ.new ob).heap.get x = some ox := by
            show (φ.heap.set φ.next (some ob)).get x = some ox
            rw [get_set_other _ _ _ _ (by omega)]; exact hx
          have := hmv.sim.inj x τ.next ox ob K L hx' hget hK' hb hr
          omega
        · exact h2
  have hu1 : ι.le ι' := by
    intro b L hb
    cases hc : ι1 b with
    | none =>
      show (match ι1 b with | some L => some L | none => ι b) = some L
      rw [hc]; exact hb
    | some K =>
      show (match ι1 b with | some L => some L | none => ι b) = some L
      rw [hc]
      by_cases hlt : b < τ.next
      · have := hmv.le b L (lt_some.2 ⟨hlt, hb⟩)
        rw [hc] at this; exact this
      · rcases hnew b K hc with h1 | ⟨rfl, _, _, ob, hob⟩
        · rw [hb] at h1; rw [← h1]
        · rw [hfree ob hob] at hb; cases hb
  refine ⟨ι', h.update hP hat hM hsz hu1 (fun b L hb => (hsplit b L hb).elim (hnew b L) .inl) ?_ hmv.size ?_ hmv.sim.below ?_⟩
  · refine hv.mono fun b L hb => lt_some.2 ⟨hdom1 b L hb, hι1 b L hb⟩
  · intro r hr
    by_cases hl : Live (ι.lt τ.next) φ r
    · exact moved_back hφ hφf hmv r hl
    · exact hmv.frame r hr hl
  · rintro ⟨ob0, hob⟩
    rcases hres with ⟨_, rfl⟩ | ⟨ob, h1, rfl, hget⟩
    · exact absurd hob (new_ne _ _)
    · obtain ⟨L, ro, k1, k2, k3⟩ := hmv.sim.live _ _ hget
      exact ⟨ob, L, ro, h1, hι1 _ _ k1, k2, k3.mono fun b L hb => lt_some.2 ⟨hdom1 b L hb, hι1 b L hb⟩⟩
end
end Sd
