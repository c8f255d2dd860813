import Derived.Test.YtfklihbkflblmaaGreatDoorSdCall
set_option linter.all false
namespace Sd
open Go Go.RowKit
section
variable {C : Ctx} {w0 : World} {B : Nat} {ι : Inj} {σ : LS} {w : World}


theorem get_startEnv : ∀ (vs : List Value) (i : Nat) (e : Env) (t : Nat) (v : Value), (startEnv vs i e).get t = some v → (∃ k, t = i + k ∧ vs[k]? = some v) ∨ (e.get t = some v ∧ (t < i ∨ i + vs.length ≤ t)) := by
  intro vs
  induction vs with
  | nil => intro i e t v h; exact .inr ⟨h, by simp; omega⟩
  | cons u vs ih =>
    intro i e t v h
    simp only [startEnv] at h
    rcases ih _ _ _ _ h with ⟨k, rfl, hk⟩ | ⟨h1, h2⟩
    · exact .inl ⟨k + 1, by simp [Nat.succ_eq_add_one]; omega, by simpa using hk⟩
    · rcases get_upd _ _ _ _ _ h1 with ⟨rfl, rfl, _⟩ | ⟨h3, h4⟩
      · exact .inl ⟨0, by simp, by simp⟩
      · refine .inr ⟨h4, ?_⟩
        simp only [List.length_cons, Nat.succ_eq_add_one] at h2 ⊢
        omega
theorem enter_env {args args' : List Value} (ha : VL ι args args') (n : Nat) : EnvR ι (startEnv args 0 (rowT (List.replicate n undef))) (args'.toArray ++ Array.replicate (n - args'.toArray.size) undef) := by
  intro t v h
  rcases get_startEnv _ _ _ _ _ h with ⟨k, hk, hv⟩ | ⟨h1, h2⟩
  · obtain rfl : t = k := by omega
    obtain ⟨v', h3, h4⟩ := ha.get hv
    have hlt := (List.getElem?_eq_some_iff.1 h3).1
    exact ⟨v', by rw [Array.getElem?_append_left (by simpa using hlt)]; simpa using h3, h4⟩
  · have h1 := get_rowT _ _ _ h1
    have hlt := (List.getElem?_eq_some_iff.1 h1).1
    simp only [List.length_replicate] at hlt
    have hv : v = undef := by
      have := List.mem_of_getElem? h1
      exact (List.mem_replicate.1 this).2
    subst hv
    have hge : args'.length ≤ t := by rw [← ha.length]; rcases h2 with h | h <;> omega
    refine ⟨undef, ?_, .of_flat rfl⟩
    rw [Array.getElem?_append_right (by simpa using hge), Array.getElem?_replicate, if_pos]
    simp only [List.size_toArray]
    omega

/-- a function of the program's own, walked -/
theorem body_sound {call : CallF} (hC : CallOK C w0 call) (hD : DrawOK C w0 call) (hM : C.P.follows .mixedOrders = true) (hN : NamesOK C.P) {fuel : Nat} {f : FuncId} {fn : Func} {c : Code} {args args' : List Value} {l : List (Value × LS)} {K : Value → World → Prop}
    (hf : C.P.funcs[f]? = some fn) (hb : fn.body = some c) (hS : Sim C w0 ι σ w) (ha : VL ι args args') (h : bodyRun C call fuel f fn c args σ = some l) (hK : Goal C w0 ι σ w l K) : UponV C.P K ((callFunc f args'.toArray).run C.P w) := by
  rw [callFunc_enter hN hf (by rw [hb]; rfl)]
  show Calls C.P f args'.toArray w fun e w'' => ∃ v, e = .returned v ∧ K v w''
  unfold bodyRun at h
  split at h
  · rename_i L hL
    refine (callsIn_wide (n := 0)).1 (callsIn_of_wp_marks hf hb trivial ?_ rfl)
    have hfl : (match C.quiet f with | true => σ.next | false => σ.floor) ≤ σ.next := by
      split
      · exact Nat.le_refl _
      · exact hS.flo
    have hS1 : Sim C w0 ι { σ with dfr := [], floor := match C.quiet f with | true => σ.next | false => σ.floor } w := ⟨hS.below, hS.dom, hS.live, hS.inj, hS.ro, hfl⟩
    have hrun : RunOK C w0 σ.next Fence.wide (evCode C call false fuel) := (code_sound wide_wide (fun _ => rfl) hC hD hM hN fuel).1
    refine hrun (σ := { σ with dfr := [], floor := match C.quiet f with | true => σ.next | false => σ.floor }) (a := { tmps := args'.toArray ++ Array.replicate (fn.ntmps - args'.toArray.size) undef, defers := [] }) (Nat.le_refl _) hS1 (enter_env ha fn.ntmps) .nil hL ?_
    intro ex env' σ' hm ι' a' w' hmv hE hd
    unfold finish at h
    split at h
    · rename_i rs hrs
      obtain ⟨y, hy, hsub⟩ := allOf_spec hrs _ hm
      have hM1 : Moved C w0 ι { σ with dfr := [], floor := match C.quiet f with | true => σ.next | false => σ.floor } w ι' (σ'.dress []) w' := hmv
      -- out of the function
      have leaves : leaveAt C fn.results.toList σ.dfr σ.floor env' (killAll σ' σ'.dfr) = some y → LeavesInM Fence.wide 0 C.P fn a'.tmps (fun e w'' => ∃ v, e = .returned v ∧ K v w'') a'.defers .returning w' := by
        intro hy
        have hkill : ∀ (l : List Nat) (τ : LS), killAll (τ.dress []) l = (killAll τ l).dress [] := by
          intro l
          induction l with
          | nil => intro τ; rfl
          | cons d l ih => intro τ; exact ih (τ.put d none)
        refine kill_leaves hS1 hM1 hd.dress ?_
        intro w'' hM2
        rw [hkill] at hM2
        unfold leaveAt at hy
        split at hy
        · rename_i v hv
          cases hy
          obtain ⟨v', h1, h2⟩ := results_run (Sim.undress hM2.sim) hE hv
          refine ⟨v', h1, v', rfl, ?_⟩
          have hin : (v, { killAll σ' σ'.dfr with dfr := σ.dfr, floor := σ.floor }) ∈ rs := hsub _ (List.mem_singleton.2 rfl)
          cases hq : C.quiet f with
          | true =>
            rw [hq] at h hM2
            simp only at h hM2
            split at h
            · rename_i u hu
              cases h
              obtain ⟨hfu, hall⟩ := allSame_spec hu
              have : v = u := hall _ hin
              subst this
              exact hK.one (quiet_back hS hM2) (by rw [h2.flat_eq hfu]; exact .of_flat hfu)
            · cases h
          | false =>
            rw [hq] at h hM2
            simp only at h hM2
            cases h
            have hM3 := hM2.redress σ.dfr
            have hfl2 : (killAll σ' σ'.dfr).floor = σ.floor := hM2.fl
            have e : ((killAll σ' σ'.dfr).dress []).dress σ.dfr = { killAll σ' σ'.dfr with dfr := σ.dfr, floor := σ.floor } := by
              rw [← hfl2]; rfl
            rw [e] at hM3
            exact hK v _ hin ι' v' w'' hM3 h2
        · cases hy
      cases ex with
      | normal => exact leaves hy
      | ret => exact leaves hy
      | exit id => simp only [leave] at hy; cases hy
      | goto g => simp only [leave] at hy; cases hy
    · cases h
  · cases h
end
end Sd
