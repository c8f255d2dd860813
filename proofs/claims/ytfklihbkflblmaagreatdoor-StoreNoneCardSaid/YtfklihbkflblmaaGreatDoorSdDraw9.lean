import Derived.Test.YtfklihbkflblmaaGreatDoorSdDraw8
set_option linter.all false
namespace Sd
open Go Go.RowKit
section
variable {C : Ctx} {call : CallF} {ops : Array Oper} {p : Plan} {w0 wI : World} {ι0 : Inj} {σ0 : LS} {envF : Env} {σF : LS} {stF : List LS} {defs : List Deferred}
variable {listed : Array Bool} {π pre rest : List Nat} {env e : Env} {σ τ τ' : LS} {st : List LS} {a : Act} {w w' : World} {ι ι1 ι' : Inj} {i : Nat} {o : Oper} {v v' : Value}

theorem Inv.ids (hS0 : Sim C w0 ι0 σ0 wI) (h : Inv C call ops p w0 wI ι0 σ0 envF σF stF defs listed π env σ st a w ι) {n : Nat} : ∀ b L, (ι.lt n) b = some L → b < n ∧ w0.heap.size ≤ L.r ∧ L.r < w.heap.size := by
  intro b L hb
  obtain ⟨h1, h2⟩ := lt_some.1 hb
  refine ⟨h1, ?_⟩
  by_cases hlt : b < σ.next
  · exact (h.moved.sim.dom b L (lt_some.2 ⟨hlt, h2⟩)).2
  · obtain ⟨e1, e2, _⟩ := h.ext b L (by omega) h2
    exact ⟨Nat.le_trans hS0.below.size e1, e2⟩
theorem Inv.blank (hS0 : Sim C w0 ι0 σ0 wI) (h : Inv C call ops p w0 wI ι0 σ0 envF σF stF defs listed π env σ st a w ι) (n : Nat) : Sim C w0 (ι.lt n) ⟨.full (n + 1), n, n, []⟩ w := by
  refine ⟨h.moved.sim.below, fun b L hb => h.ids hS0 b L hb, fun b o hb => ?_, fun b b' o o' L L' hb => ?_, h.moved.sim.ro, Nat.le_refl _⟩
  · rw [get_full] at hb; cases hb
  · rw [get_full] at hb; cases hb
theorem Inv.look (hS0 : Sim C w0 ι0 σ0 wI) (h : Inv C call ops p w0 wI ι0 σ0 envF σF stF defs listed π env σ st a w ι) {n : Nat} (hn : σ.next ≤ n) : Sim C w0 (ι.lt n) ⟨σ.heap, n, n, []⟩ w := by
  refine ⟨h.moved.sim.below, fun b L hb => h.ids hS0 b L hb, fun b o hb => ?_, fun b b' o o' L L' hb hb' hL hL' he => ?_, h.moved.sim.ro, Nat.le_refl _⟩
  · obtain ⟨L, ro, h1, h2, h3⟩ := h.moved.sim.live b o hb
    exact ⟨L, ro, lt_mono hn _ _ h1, h2, h3.mono (lt_mono hn)⟩
  · have k1 := heap_lt h.moved.sim b o hb
    have k2 := heap_lt h.moved.sim b' o' hb'
    exact h.moved.sim.inj b b' o o' L L' hb hb' (lt_some.2 ⟨k1, (lt_some.1 hL).2⟩) (lt_some.2 ⟨k2, (lt_some.1 hL').2⟩) he

/-- an operation that turns nothing, run by the real run -/
theorem Inv.still {F : Fence} (hF : Wide F) {n : Nat} {Q : Exit → Act → World → Prop} (hC : CallOK C w0 call) (hP : PlanP ops p) (hS0 : Sim C w0 ι0 σ0 wI) (h : Inv C call ops p w0 wI ι0 σ0 envF σF stF defs listed π env σ st a w ι)
    (hat : At C call ops π env σ pre i o e τ v τ') (hM : isM o.op = false) (hsz : i < listed.size) (hnot : ¬ Done listed i) (hready : ∀ j, (maskAt p.tab i).testBit j = true → Done listed j)
    (hlook : isL o.op = true → wantedL ops e o = some true → ∃ call' env', (∀ x ∈ o.op.operands, ev1 env' x = ev1 e x) ∧ evOp C call' o env' σ = some [(v, σ)])
    {K : Act → World → Prop} (hK : ∀ a' w' ι', Inv C call ops p w0 wI ι0 σ0 envF σF stF defs (listed.setIfInBounds i true) π env σ st a' w' ι' → K a' w') : wpOpIn F n C.P ops Q i K a w := by
  obtain ⟨env2, hE, hop2, hw2⟩ := h.fake hP hat hready
  unfold wpOpIn
  simp only [hat.op]
  rcases step1_spec hat.step with ⟨hw, rfl, rfl⟩ | ⟨hw, hev, _⟩
  · rw [wanted_rel hE (hw2.trans hw), if_neg (by simp)]
    refine ⟨fun f _ => hF.fn f, hK _ _ ι ?_⟩
    refine h.update hP hat hM hsz ι.le_refl (fun b L hb => .inl hb) (.of_flat rfl) (Nat.le_refl _) (fun _ _ => rfl) h.moved.sim.below ?_
    rintro ⟨ob, hob⟩
    exact absurd hob (new_ne _ _)
  · rw [wanted_rel hE (hw2.trans hw), if_pos rfl]
    -- a made-up state in which it runs
    have made : ∃ φ φ', φ.next = τ.next ∧ φ.floor = φ.next ∧ Sim C w0 (ι.lt τ.next) φ w ∧ ((φ' = φ ∧ τ' = τ) ∨ ∃ ob, τ' = τ.new ob ∧ φ' = φ.new ob ∧ (φ.new ob).heap.get τ.next = some ob) ∧ evOp C call o env2 φ = some [(v, φ')] := by
      by_cases hA : isA o.op = true
      · obtain ⟨u, ob, h1, h2⟩ := state_lays hA τ _ hev
        simp only [List.cons.injEq, Prod.mk.injEq, and_true] at h1
        obtain ⟨rfl, rfl⟩ := h1
        refine ⟨⟨.full (τ.next + 1), τ.next, τ.next, []⟩, _, rfl, rfl, h.blank hS0 τ.next, .inr ⟨ob, rfl, rfl, ?_⟩, ?_⟩
        · exact full_set _ ob _ _ (Nat.lt_succ_self _)
        · rw [evOp_congr hop2]; exact h2 _ rfl
      · by_cases hL : isL o.op = true
        · obtain ⟨u, h1, _⟩ := state_looks hL τ _ hev
          simp only [List.cons.injEq, Prod.mk.injEq, and_true] at h1
          obtain ⟨rfl, rfl⟩ := h1
          obtain ⟨call', env', h3, h4⟩ := hlook hL hw
          obtain ⟨u2, h5, h6⟩ := state_looks hL σ _ h4
          simp only [List.cons.injEq, Prod.mk.injEq, and_true] at h5
          subst h5
          refine ⟨⟨σ.heap, τ'.next, τ'.next, []⟩, _, rfl, rfl, h.look hS0 hat.next, .inl ⟨rfl, rfl⟩, ?_⟩
          rw [nonM_call hM (call' := call'), evOp_congr (env' := env') (fun x hx => (hop2 x hx).trans (h3 x hx).symm)]
          exact h6 _ rfl
        · obtain ⟨u, h1, h2⟩ := state_plain hM (by simpa using hL) (by simpa using hA) τ _ hev
          simp only [List.cons.injEq, Prod.mk.injEq, and_true] at h1
          obtain ⟨rfl, rfl⟩ := h1
          exact ⟨⟨.full (τ'.next + 1), τ'.next, τ'.next, []⟩, _, rfl, rfl, h.blank hS0 τ'.next, .inl ⟨rfl, rfl⟩, by rw [evOp_congr hop2]; exact h2 _⟩
    obtain ⟨φ, φ', m1, m2, m3, m4, m5⟩ := made
    refine oper_wpIn hF (defer_none hev) (K := fun v' w' => ∃ ι1, Moved C w0 (ι.lt τ.next) φ w ι1 φ' w' ∧ VR ι1 v v') ?_ ?_
    · refine evOp_sound hC m3 hE m5 fun u φ2 hm ι1 v' w' hmv hv => ?_
      obtain ⟨rfl, rfl⟩ : u = v ∧ φ2 = φ' := by simpa using hm
      exact ⟨ι1, hmv, hv⟩
    · rintro v' w' ⟨ι1, hmv, hv⟩
      obtain ⟨ι', hinv⟩ := h.ran hP hat hM hsz hnot m1 m2 m3 m4 hmv hv
      exact hK _ _ ι' hinv
end
end Sd
