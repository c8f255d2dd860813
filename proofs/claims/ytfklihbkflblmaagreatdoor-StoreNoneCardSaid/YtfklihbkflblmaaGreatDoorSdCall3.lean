import Derived.Test.YtfklihbkflblmaaGreatDoorSdCall2
set_option linter.all false
namespace Sd
open Go Go.RowKit
section
variable {C : Ctx} {w0 : World} {B : Nat} {ι : Inj} {σ : LS} {w : World}

/-! ### rounds -/
theorem EnvR.upd {env : Env} {tmps : Array Value} (h : EnvR ι env tmps) {v v' : Value} (hv : VR ι v v') (d : Tmp) : EnvR ι (env.upd d v) (tmps.setIfInBounds d v') :=
  EnvR.put (a := { tmps := tmps, defers := [] }) h hv (some d)
theorem params_rel : ∀ {ps : List Tmp} {args args' : List Value} {env : Env} {tmps : Array Value}, VL ι args args' → EnvR ι env tmps → EnvR ι (setParams ps args env) ((ps.zip args').foldl (fun tmps p => tmps.setIfInBounds p.1 p.2) tmps) := by
  intro ps
  induction ps with
  | nil => intro args args' env tmps ha hE; simpa [setParams] using hE
  | cons t ps ih =>
    intro args args' env tmps ha hE
    cases ha with
    | nil => simpa [setParams] using hE
    | cons h t' =>
      simp only [setParams, List.zip_cons_cons, List.foldl_cons]
      exact ih t' (hE.upd h t)
theorem flip_spec {o : Option LObj} {was : Bool} {n : LObj} (h : flip o was = some n) : ∃ env ps assign body d, o = some (.loop env ps assign body d was) ∧ n = .loop env ps assign body d (!was) := by
  unfold flip at h
  split at h
  · rename_i env ps assign body d busy
    split at h
    · rename_i hb
      have : busy = was := eq_of_beq hb
      subst this
      cases h
      exact ⟨_, _, _, _, _, rfl, rfl⟩
    · cases h
  · cases h
/-- the record of a loop is turned -/
theorem loop_put (hS : Sim C w0 ι σ w) {b : Nat} {L : Loc} {env : Env} {ps : Array Tmp} {assign body : Code} {d : Nat} {was now : Bool} (hL : ι b = some L) (hm : mine σ (2 * b) = some (.loop env ps assign body d was)) :
    ∃ r : Loop, w.heap[L.r]? = some (.loop r) ∧ r.state = (if was then .busy else .ready) ∧ r.pending = none ∧ r.params = ps ∧ r.assign = assign ∧ r.body = body ∧ EnvR ι env r.tmps ∧
      Moved C w0 ι σ w ι (σ.put b (some (.loop env ps assign body d now))) (w.putObj L.r (.loop { r with state := if now then .busy else .ready })) := by
  obtain ⟨_, hf, hg⟩ := mine_spec hm
  rw [show 2 * b / 2 = b from by omega] at hf hg
  obtain ⟨L', ro, h1, h2, h3⟩ := hS.live _ _ hg
  rw [hL] at h1; cases h1
  cases h3 with
  | loop hd he =>
    exact ⟨_, h2, rfl, rfl, rfl, rfl, rfl, he, moved_put hS hg hL hf (by simp) _ (fun o' ho' => by cases ho'; exact .loop hd he) (turned_set w L.r _ _ h2)⟩

theorem yield_sound {call : CallF} (hC : CallOK C w0 call) (hD : DrawOK C w0 call) (hM : C.P.follows .mixedOrders = true) (hN : NamesOK C.P) {fuel b : Nat} {L : Loc} {args args' : List Value} {l : List (Value × LS)} {K : Value → World → Prop}
    (hS : Sim C w0 ι σ w) (ha : VL ι args args') (hL : ι b = some L) (h : yieldRun C call fuel (2 * b) args σ = some l) (hK : Goal C w0 ι σ w l K) : UponV C.P K ((Instr.yield L.r args'.toArray).run C.P w) := by
  unfold yieldRun at h
  split at h
  · rename_i env ps assign body d hm
    split at h
    · rename_i hsz
      obtain ⟨r, h1, h2, h3, rfl, rfl, rfl, he, _⟩ := loop_put (now := false) hS hL hm
      have hsize : args'.toArray.size = r.params.size := by
        have := Nat.eq_of_beq_eq_true hsz
        simp [← ha.length, this]
      rw [run_yield h1 hsize]
      show ∀ n, RoundIn Fence.wide n C.P L.r r.fn _ r.assign r.body w fun e w'' => ∃ v, e = .returned v ∧ K v w''
      intro n
      unfold roundRun at h
      split at h
      · rename_i env1 σ1 hev
        split at h
        · rename_i o1 ho1
          refine roundIn_of_wpIn trivial ?_
          have hE1 : EnvR ι (setParams r.params.toList args env) ((r.params.zip args'.toArray).foldl (fun tmps (t, a) => tmps.setIfInBounds t a) r.tmps) := by
            have := params_rel (ps := r.params.toList) ha he
            rw [← Array.foldl_toList, Array.toList_zip]
            exact this
          have hS0 : Sim C w0 ι { σ with dfr := [] } w := hS.dress []
          have hR : RunOK C w0 0 (Fence.wide.inRound L.r) (evCode C call true fuel) := (code_sound (wide_round L.r) (fun e => by cases e) hC hD hM hN fuel).1
          refine hR (σ := { σ with dfr := [] }) (a := { tmps := (r.params.zip args'.toArray).foldl (fun tmps (t, a) => tmps.setIfInBounds t a) r.tmps, defers := [] }) (Nat.zero_le _) hS0 hE1 .nil hev ?_
          intro ex env' σ' hmem ι1 a1 w1 hmv1 hE1' hd1
          obtain ⟨rfl, rfl, rfl⟩ : ex = .normal ∧ env' = env1 ∧ σ' = σ1 := by simpa using hmem
          -- the round begins
          obtain ⟨env2, ps2, as2, bo2, d2, hm1, rfl⟩ := flip_spec ho1
          have hL1 := (show Moved C w0 ι { σ with dfr := [] } w ι1 (σ'.dress []) w1 from hmv1).le _ _ hL
          obtain ⟨r1, q1, q2, q3, _, _, _, _, hmv2⟩ := loop_put (now := true) hmv1.sim hL1 hm1
          refine ⟨_, run_beginRound q1 q2, ?_⟩
          unfold roundBody at h
          split at h
          · rename_i env3 σ3 hev3
            split at h
            · rename_i o3 ho3
              cases h
              have hmv12 := hmv1.trans hmv2.toC
              refine hR (ι := ι1) (σ := σ'.put (Nat.div (2 * b) 2) (some (.loop env2 ps2 as2 bo2 d2 (!false)))) (a := a1) (Nat.zero_le _) ?_ ?_ ?_ hev3 ?_
              · rw [show Nat.div (2 * b) 2 = b from by show 2 * b / 2 = b; omega]; exact hmv2.sim
              · exact hE1'.mono hmv2.le
              · rw [show Nat.div (2 * b) 2 = b from by show 2 * b / 2 = b; omega]; exact hd1.moved hmv2
              · intro ex env' σ'' hmem ι3 a3 w3 hmv3 hE3 hd3
                obtain ⟨rfl, rfl, rfl⟩ : ex = .normal ∧ env' = env3 ∧ σ'' = σ3 := by simpa using hmem
                rw [show Nat.div (2 * b) 2 = b from by show 2 * b / 2 = b; omega] at hmv3
                obtain ⟨env4, ps4, as4, bo4, d4, hm3, rfl⟩ := flip_spec ho3
                have hL3 := (show Moved C w0 ι1 (σ'.put b (some (.loop env2 ps2 as2 bo2 d2 (!false)))) (w1.putObj L.r (.loop { r1 with state := if true then .busy else .ready })) ι3 (σ''.dress _) w3 from hmv3).le _ _ hL1
                obtain ⟨r3, p1, p2, p3, _, _, _, _, hmv4⟩ := loop_put (now := false) hmv3.sim hL3 hm3
                refine ⟨_, _, run_endRound none p1, .bool true, rfl, ?_⟩
                have htot := (hmv12.trans hmv3).trans hmv4.toC
                have e4 : (w3.putObj L.r (.loop { r3 with state := if (none : Option Code).isNone then .ready else .done, pending := none })) = w3.putObj L.r (.loop { r3 with state := if false then .busy else .ready }) := by
                  congr 2
                  cases r3; cases p3; rfl
                rw [e4]
                have hfin := Moved.redress (show Moved C w0 ι { σ with dfr := [] } w ι3 ((σ''.put b (some (.loop env4 ps4 as4 bo4 d4 false))).dress []) _ from htot) σ.dfr
                refine hK (.bool true) _ (List.mem_singleton.2 rfl) ι3 _ _ ?_ (.of_flat rfl)
                rw [show Nat.div (2 * b) 2 = b from by show 2 * b / 2 = b; omega]
                exact hfin
            · cases h
          · cases h
        · cases h
      · cases h
    · cases h
  · cases h

/-! ### every call -/
theorem evCall_sound (hExt : ExtOK C w0) (hMemo : MemoOK C) (hDraw : ∀ call, CallOK C w0 call → DrawOK C w0 call) (hM : C.P.follows .mixedOrders = true) (hN : NamesOK C.P) (fuel : Nat) : ∀ n, CallOK C w0 (evCall C fuel n) := by
  intro n
  induction n with
  | zero => exact ⟨fun _ _ h _ => by simp [evCall] at h, fun _ _ _ h _ => by simp [evCall] at h⟩
  | succ n ih =>
    refine ⟨?_, ?_⟩
    · intro ι σ w f args args' l K hS ha h hK
      simp only [evCall, callStep, enterRun] at h
      split at h
      · rename_i x hx
        exact hExt hx hS ha h hK
      · split at h
        · rename_i v hv
          cases h
          exact memo_sound hN hMemo hS ha hv hK
        · split at h
          · rename_i fn hf
            split at h
            · rename_i c hb
              exact body_sound ih (hDraw _ ih) hM hN hf hb hS ha h hK
            · cases h
          · cases h
    · intro ι σ w b L args args' l K hS ha hL h hK
      simp only [evCall, callStep] at h
      exact yield_sound ih (hDraw _ ih) hM hN hS ha hL h hK

/-- a run of a function in the empty logical heap -/
theorem calls_of_ev (hExt : ExtOK C w0) (hMemo : MemoOK C) (hDraw : ∀ call, CallOK C w0 call → DrawOK C w0 call) (hM : C.P.follows .mixedOrders = true) (hN : NamesOK C.P) (hro : RoOK C w0) {fuel n : Nat} {f : FuncId} {fn : Func} (hf : C.P.funcs[f]? = some fn) (hb : fn.body.isSome = true)
    {args : List Value} (ha : allFlat args = true) {l : List (Value × LS)} (h : evCall C fuel n (.func f) args LS.empty = some l) :
    Calls C.P f args.toArray w0 fun e w' => ∃ v v' σ' ι', e = .returned v' ∧ (v, σ') ∈ l ∧ VR ι' v v' ∧ Sim C w0 ι' σ' w' := by
  have hS : Sim C w0 (fun _ => none) LS.empty w0 := by
    refine ⟨Below.refl _ _, fun b L h => (by cases h), fun b o h => ?_, fun b b' o o' L L' h => ?_, hro, Nat.le_refl _⟩
    · rw [show LS.empty.heap = T.full heapDepth from rfl, get_full] at h; cases h
    · rw [show LS.empty.heap = T.full heapDepth from rfl, get_full] at h; cases h
  have hargs : ∀ {l : List Value}, allFlat l = true → VL (fun _ => none) l l := by
    intro l
    induction l with
    | nil => intro _; exact .nil
    | cons a l ih =>
      intro h
      simp only [allFlat] at h
      split at h
      · rename_i h1; exact .cons (.of_flat h1) (ih h)
      · cases h
  have hcall := (evCall_sound hExt hMemo hDraw hM hN fuel n).func (K := fun v' w' => ∃ v σ' ι', (v, σ') ∈ l ∧ VR ι' v v' ∧ Sim C w0 ι' σ' w') hS (hargs ha) h
    (fun v σ' hm ι' v' w' hmv hv => ⟨v, σ', ι', hm, hv, hmv.sim⟩)
  rw [callFunc_enter hN hf hb] at hcall
  have hcall' : Calls C.P f args.toArray w0 (fun e w'' => ∃ v, e = .returned v ∧ (∃ u σ' ι', (u, σ') ∈ l ∧ VR ι' u v ∧ Sim C w0 ι' σ' w'')) := hcall
  refine Calls.mono hcall' ?_
  intro e w' he
  obtain ⟨v', rfl, v, σ', ι', h1, h2, h3⟩ := he
  exact ⟨v, v', σ', ι', rfl, h1, h2, h3⟩
end
end Sd
