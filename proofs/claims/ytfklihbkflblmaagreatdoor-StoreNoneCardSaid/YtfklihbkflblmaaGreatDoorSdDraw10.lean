import Derived.Test.YtfklihbkflblmaaGreatDoorSdDraw9
set_option linter.all false
namespace Sd
open Go Go.RowKit
section
variable {C : Ctx} {call : CallF} {ops : Array Oper} {p : Plan} {w0 wI : World} {ι0 : Inj} {σ0 : LS} {envF : Env} {σF : LS} {stF : List LS} {defs : List Deferred}
variable {listed : Array Bool} {π pre rest : List Nat} {env e : Env} {σ σ' τ τ' : LS} {st : List LS} {a : Act} {w w' : World} {ι ι1 ι' : Inj} {i : Nat} {o : Oper} {v v' : Value}

/-- the head of what is left, an operation that turns something, has run -/
theorem Inv.turned (hP : PlanP ops p) (h : Inv C call ops p w0 wI ι0 σ0 envF σF stF defs listed (i :: rest) env σ st a w ι) (ho : ops[i]? = some o) (hs : step1 C call ops o env σ = some (v, σ')) (hM : isM o.op = true)
    (hsz : i < listed.size) (hnot : ¬ Done listed i) (hmv : Moved C w0 (ι.lt σ.next) σ w ι1 σ' w') (hv : VR ι1 v v') :
    ∃ ι', Inv C call ops p w0 wI ι0 σ0 envF σF stF defs (listed.setIfInBounds i true) rest (putD env o.dst v) σ' (σ' :: st) (a.put o.dst v') w' ι' := by
  have hn := h.nodup hP
  have hnx := step1_next hs
  have hline : evLine C call ops rest (putD env o.dst v) σ' (σ' :: st) = some (envF, σF, stF) := by
    obtain ⟨o2, v2, σ2, h1, h2, h3⟩ := line_cons h.line
    rw [ho] at h1; cases h1
    rw [hs] at h2; cases h2
    rw [hM] at h3
    exact h3
  let ι' : Inj := fun b => if b < σ'.next then ι1 b else ι b
  have hlo : ∀ b, b < σ'.next → ι' b = ι1 b := fun b hb => if_pos hb
  have hhi : ∀ b, ¬ b < σ'.next → ι' b = ι b := fun b hb => if_neg hb
  have hlt : ι'.lt σ'.next = ι1 := by
    funext b
    unfold Inj.lt
    split
    · rename_i hb; exact hlo b hb
    · rename_i hb
      cases hc : ι1 b with
      | none => rfl
      | some L => exact absurd (hmv.sim.dom b L hc).1 hb
  -- what lies ahead lies behind this step
  have hahead : ∀ b L, σ.next ≤ b → ι b = some L → σ'.next ≤ b ∧ ∃ pre2 i2 o2 e2 τ2 v2 ob, At C call ops rest (putD env o.dst v) σ' pre2 i2 o2 e2 τ2 v2 (τ2.new ob) ∧ Done listed i2 ∧ b = τ2.next := by
    intro b L hb hL
    obtain ⟨pre2, i2, o2, e2, τ2, v2, ob, h1, h2, h3⟩ := h.extat b L hb hL
    cases h1 with
    | here ho2 hs2 => exact absurd h2 hnot
    | there ho2 hs2 t =>
      rw [ho] at ho2; cases ho2
      rw [hs] at hs2; cases hs2
      exact ⟨by rw [h3]; exact t.next, _, _, _, _, _, _, _, t, h2, h3⟩
  have hu1 : ι.le ι' := by
    intro b L hL
    by_cases hb : b < σ.next
    · rw [hlo b (Nat.lt_of_lt_of_le hb hnx)]
      exact hmv.le b L (lt_some.2 ⟨hb, hL⟩)
    · have := (hahead b L (by omega) hL).1
      rw [hhi b (by omega)]; exact hL
  have hrel : ∀ {κ : Inj} t x, o.dst ≠ some t → Rel κ a.tmps t x → Rel κ (a.put o.dst v').tmps t x := fun t x hd ⟨y, h1, h2⟩ => ⟨y, by rw [put_other hd]; exact h1, h2⟩
  refine ⟨ι', ?_, hline, ?_, ?_, ?_, ?_, ?_, ?_, ?_, by rw [put_defers]; exact h.defers⟩
  · obtain ⟨done, h1, h2⟩ := h.pre
    refine ⟨done ++ [i], by rw [h1]; simp, fun j hj => (done_set hsz).2 ?_⟩
    rcases List.mem_append.1 hj with hj | hj
    · exact .inl (h2 j hj)
    · exact .inr (List.mem_singleton.1 hj)
  · rw [hlt]; exact h.moved.trans hmv
  · intro t x hw hx
    rw [hlt]
    rcases putD_get hx with ⟨hd, rfl⟩ | ⟨hd, hx'⟩
    · obtain ⟨y, hy⟩ := putD_dom hx
      exact ⟨v', put_same hd (h.size t y hy), hv⟩
    · refine hrel t x hd ((h.envs t x (fun j hj oj hoj => ?_) hx').mono hmv.le)
      rcases List.mem_cons.1 hj with rfl | hj
      · rw [ho] at hoj; cases hoj; exact hd
      · exact hw j hj oj hoj
  · intro t x hx
    obtain ⟨y, hy⟩ := putD_dom hx
    rw [put_size]; exact h.size t y hy
  · intro pre2 j oj ej τj vj τj' hatj hj
    have hjne : j ≠ i := by
      rintro rfl
      obtain ⟨r2, hr2⟩ := hatj.split
      rw [hr2] at hn
      simp at hn
    have hj' : Done listed j := ((done_set hsz).1 hj).resolve_right hjne
    obtain ⟨e1, e2, e3⟩ := h.early (.there ho hs hatj) hj'
    refine ⟨e1, fun d x hd hx => hrel d x (fun hd2 => hjne (hP.dsts j i oj o d hatj.op ho hd hd2)) ((e2 d x hd hx).mono (lt_le hu1)), fun hob => ?_⟩
    obtain ⟨ob, L, ro, k0, k1, k2, k3⟩ := e3 hob
    obtain ⟨g1, g2, g3⟩ := h.ext τj.next L (Nat.le_trans hnx hatj.next) k1
    exact ⟨ob, L, ro, k0, hu1 _ _ k1, by rw [hmv.frame _ g2 g3]; exact k2, k3.mono (lt_le hu1)⟩
  · intro b L hb hL
    rw [hhi b (by omega)] at hL
    obtain ⟨g1, g2, g3⟩ := h.ext b L (Nat.le_trans hnx hb) hL
    refine ⟨g1, Nat.lt_of_lt_of_le g2 hmv.size, ?_⟩
    rw [hlt]
    intro hl
    rcases hmv.fresh _ hl with h1 | h1
    · exact g3 h1
    · omega
  · intro b b' L L' hb hb' hL hL' he
    rw [hhi b (by omega)] at hL
    rw [hhi b' (by omega)] at hL'
    exact h.extinj b b' L L' (Nat.le_trans hnx hb) (Nat.le_trans hnx hb') hL hL' he
  · intro b L hb hL
    rw [hhi b (by omega)] at hL
    obtain ⟨_, pre2, i2, o2, e2, τ2, v2, ob, h1, h2, h3⟩ := hahead b L (Nat.le_trans hnx hb) hL
    exact ⟨pre2, i2, o2, e2, τ2, v2, ob, h1, (done_set hsz).2 (.inl h2), h3⟩

/-- the head of what is left, run by the real run -/
theorem Inv.turns {F : Fence} (hF : Wide F) {n : Nat} {Q : Exit → Act → World → Prop} (hC : CallOK C w0 call) (hP : PlanP ops p) (h : Inv C call ops p w0 wI ι0 σ0 envF σF stF defs listed (i :: rest) env σ st a w ι)
    (ho : ops[i]? = some o) (hM : isM o.op = true) (hsz : i < listed.size) (hnot : ¬ Done listed i) (hready : ∀ j, (maskAt p.tab i).testBit j = true → Done listed j)
    {K : Act → World → Prop} (hK : ∀ env' σ' a' w' ι', Inv C call ops p w0 wI ι0 σ0 envF σF stF defs (listed.setIfInBounds i true) rest env' σ' (σ' :: st) a' w' ι' → K a' w') : wpOpIn F n C.P ops Q i K a w := by
  obtain ⟨o2, v, σ', ho2, hs, _⟩ := line_cons h.line
  rw [ho] at ho2; cases ho2
  have hat : At C call ops (i :: rest) env σ [] i o env σ v σ' := .here ho hs
  obtain ⟨env2, hE, hop2, hw2⟩ := h.fake hP hat hready
  unfold wpOpIn
  simp only [ho]
  rcases step1_spec hs with ⟨hw, hvv, hσσ⟩ | ⟨hw, hev, _⟩
  · rw [wanted_rel hE (hw2.trans hw), if_neg (by simp)]
    subst hvv
    have hmv : Moved C w0 (ι.lt σ.next) σ w (ι.lt σ.next) σ' w := by rw [hσσ]; exact .refl h.moved.sim
    obtain ⟨ι', hinv⟩ := h.turned hP ho hs hM hsz hnot hmv (v' := undef) (.of_flat rfl)
    exact ⟨fun f _ => hF.fn f, hK _ _ _ _ ι' hinv⟩
  · rw [wanted_rel hE (hw2.trans hw), if_pos rfl]
    refine oper_wpIn hF (defer_none hev) (K := fun v' w' => ∃ ι1, Moved C w0 (ι.lt σ.next) σ w ι1 σ' w' ∧ VR ι1 v v') ?_ ?_
    · refine evOp_sound hC h.moved.sim hE (by rw [evOp_congr hop2]; exact hev) fun u φ2 hm ι1 v' w' hmv hv => ?_
      obtain ⟨rfl, rfl⟩ : u = v ∧ φ2 = σ' := by simpa using hm
      exact ⟨ι1, hmv, hv⟩
    · rintro v' w' ⟨ι1, hmv, hv⟩
      obtain ⟨ι', hinv⟩ := h.turned hP ho hs hM hsz hnot hmv hv
      exact hK _ _ _ _ ι' hinv
end
end Sd
