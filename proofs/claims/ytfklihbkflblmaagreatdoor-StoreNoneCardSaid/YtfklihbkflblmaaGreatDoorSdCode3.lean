import Derived.Test.YtfklihbkflblmaaGreatDoorSdCode2
set_option linter.all false
namespace Sd
open Go Go.RowKit
section
variable {C : Ctx} {w0 : World} {B : Nat} {ι : Inj} {σ : LS} {w : World}

def NamesOK (P : Program) : Prop := ∀ (f : FuncId) (fn : Func), P.funcs[f]? = some fn → fn.body.isSome = true → (fn.name == "runtime.NumGoroutine") = false
theorem callFunc_enter {P : Program} (hN : NamesOK P) {f : FuncId} {fn : Func} (hf : P.funcs[f]? = some fn) (hb : fn.body.isSome = true) (args : Array Value) (w : World) : (callFunc f args).run P w = .ok (.enter f args) w := by
  have hn := hN f fn hf hb
  cases hbody : fn.body with
  | none => rw [hbody] at hb; cases hb
  | some c => simp only [callFunc, Sem.run_bind, run_program, Result.andThen_ok, hf, hn, hbody]; rfl

theorem new_loop (hS : Sim C w0 ι σ w) (fn : FuncId) {env : Env} {tmps : Array Value} (hE : EnvR ι env tmps) (ps : Array Tmp) (assign body : Code) :
    ∃ ι2, Moved C w0 ι σ w ι2 ((σ.new .deferred).new (.loop env ps assign body σ.next false))
      ((w.alloc (.deferred (some []))).alloc (.loop { state := .ready, pending := none, fn, tmps, params := ps, assign, body, defers := w.heap.size })) ∧
      ι2 σ.next = some ⟨w.heap.size, 0, 0⟩ ∧ ι2 (σ.next + 1) = some ⟨w.heap.size + 1, 0, 0⟩ := by
  have h1 : Moved C w0 ι σ w (ι.add σ.next ⟨w.heap.size, 0, 0⟩) (σ.new .deferred) (w.alloc (.deferred (some []))) := moved_new hS 0 .deferred (Grown.alloc w _)
  have hsz : (w.alloc (.deferred (some []))).heap.size = w.heap.size + 1 := by simp
  have hle2 : (ι.add σ.next ⟨w.heap.size, 0, 0⟩).le ((ι.add σ.next ⟨w.heap.size, 0, 0⟩).add (σ.new .deferred).next ⟨(w.alloc (.deferred (some []))).heap.size, 0, 0⟩) := Inj.add_le h1.sim.next_none
  have h2 := moved_new (o := .loop env ps assign body σ.next false) (ro := .loop { state := .ready, pending := none, fn, tmps, params := ps, assign, body, defers := w.heap.size }) h1.sim 0
    (.loop (Ld := ⟨w.heap.size, 0, 0⟩) (hle2 _ _ (Inj.add_same _ _ _)) ((hE.mono h1.le).mono hle2)) (Grown.alloc _ _)
  refine ⟨_, h1.trans h2, hle2 _ _ (Inj.add_same _ _ _), ?_⟩
  have := Inj.add_same (ι.add σ.next ⟨w.heap.size, 0, 0⟩) (σ.new .deferred).next ⟨(w.alloc (.deferred (some []))).heap.size, 0, 0⟩
  rw [hsz] at this ⊢
  exact this

theorem range_wpIn (hB : B ≤ σ.next) {F : Fence} (hF : Wide F) (hro : F.round = none) {n : Nat} {call : CallF} (hC : CallOK C w0 call) (hN : NamesOK C.P) {f : Operand} {ps : Array Tmp} {assign body : Code} {env : Env} {a : Act} {l : List (Ex × Env × LS)} {Q : Exit → Act → World → Prop}
    (hS : Sim C w0 ι σ w) (hE : EnvR ι env a.tmps) (hd : DefR B ι σ σ.dfr a.defers) (h : rangeRun C call f ps assign body env σ = some l) (hQ : GoalC C w0 B ι σ w l Q) : (Code.rangeFunc f ps assign body).wpIn F n C.P Q a w := by
  unfold rangeRun at h
  split at h
  · rename_i fv hf
    split at h
    · rename_i hent
      split at h
      · rename_i rs hrs
        have hall := allOf_spec h
        refine wpIn_rangeFunc fun fn _ => ?_
        obtain ⟨ι2, hm2, e1, e2⟩ := new_loop hS fn hE ps assign body
        have hv := (hE.eval hf).mono hm2.le
        -- the function
        unfold enters at hent
        split at hent
        · rename_i g first cap
          split at hent
          · rename_i fg hfg
            generalize hva : a.eval f = v' at hv
            cases hv with
            | atom h => simp [atomic] at h
            | func h1 h2 h3 h4 =>
              rename_i first' cap'
              -- the call
              simp only [callVal] at hrs
              have hy : VR ι2 (.func (.yield (Nat.mul 2 (Nat.succ σ.next))) #[] #[]) (.func (.yield (w.heap.size + 1)) #[] #[]) := VR.yield (L := ⟨w.heap.size + 1, 0, 0⟩) e2
              have hargs := ((VL.of_arr h1 h3).append (.cons hy .nil)).append (VL.of_arr h2 h4)
              let a2 : Act := { a with defers := [{ target := .collected w.heap.size, args := #[] }] ++ a.defers }
              have hcall := hC.func (K := fun _ w3 => ∃ jump w4, (Instr.endLoop (w.heap.size + 1)).run C.P w3 = .ok jump w4 ∧ (match jump with | none => Q .normal a2 w4 | some c => c.wpIn F n C.P Q a2 w4)) hm2.sim hargs hrs ?_
              · have ea : (first'.toList ++ [Value.func (.yield (w.heap.size + 1)) #[] #[]] ++ cap'.toList).toArray = first' ++ #[Value.func (.yield (w.heap.size + 1)) #[] #[]] ++ cap' := by apply Array.ext'; simp
                rw [ea, callFunc_enter hN hfg hent] at hcall
                let W : World := (w.alloc (.deferred (some []))).alloc (.loop { state := .ready, pending := none, fn, tmps := a.tmps, params := ps, assign, body, defers := w.heap.size })
                refine ⟨w.heap.size + 1, [{ target := .collected w.heap.size, args := #[] }], W, { target := .fn (.func g) cap', args := first' ++ #[Value.func (.yield (w.heap.size + 1)) #[] #[]] }, W, g, first' ++ #[Value.func (.yield (w.heap.size + 1)) #[] #[]] ++ cap', W, ?_, ?_, fun f' _ => hF.fn f', ?_, ?_, ?_⟩
                · rw [hro]; exact run_enterLoop_outer fn a.tmps ps assign body
                · simp only [resolve, hva, Deferred.ofValue, Sem.run_pure]
                  simp [Act.eval]
                · simp only [invoke]
                  exact callFunc_enter hN hfg hent _ _
                · intro e; rw [hF.depth] at e; cases e
                · refine (hF.calls hcall).mono fun e w3 he => ?_
                  obtain ⟨v, rfl, hk⟩ := he
                  exact hk
              · intro v σ3 hm ι3 v' w3 hmv hv'
                obtain ⟨y, hy, hsub⟩ := hall _ hm
                simp only [afterRange] at hy
                split at hy
                · rename_i env3 ps3 as3 bo3 d3 hloop
                  split at hy
                  · rename_i hdef
                    cases hy
                    obtain ⟨L3, ro3, k1, k2, k3⟩ := hmv.sim.live _ _ hloop
                    have k1' := hmv.le _ _ e2
                    rw [k1'] at k1; cases k1
                    have hfl : σ3.floor = σ.floor := hmv.fl.trans hm2.fl
                    have hdfr : σ3.dfr = σ.dfr := hmv.dfr.trans hm2.dfr
                    cases k3 with
                    | loop hd3 he3 =>
                      rename_i fn3 tm3 Ld3
                      have hend := run_endLoop (P := C.P) k2 (by simp)
                      refine ⟨_, _, hend, ?_⟩
                      have hput := moved_put (ro := .loop { state := .exhausted, pending := none, fn := fn3, tmps := tm3, params := ps3, assign := as3, body := bo3, defers := Ld3.r }) hmv.sim hloop k1' (by rw [hfl]; exact Nat.le_succ_of_le hS.flo) (by simp) none (fun o' ho' => by cases ho') (turned_set w3 _ _ _ k2)
                      have htot := (hm2.trans hmv).trans hput
                      refine hQ .normal env ((σ3.put (Nat.succ σ.next) none).dress (σ.next :: σ3.dfr)) (hsub _ (List.mem_singleton.2 rfl)) ι3 a2 _ htot.toC ((hE.mono (hm2.le)).mono hmv.le) ?_
                      refine .cons (L := ⟨w.heap.size, 0, 0⟩) (hmv.le _ _ e1) ?_ ?_ (by rw [hdfr]; exact hd.lt hS) ?_
                      · show (σ3.heap.set (Nat.succ σ.next) none).get σ.next = some .deferred
                        rw [get_set_other _ _ _ _ (by simp)]; exact hdef
                      · exact hB
                      · have := hd.moved htot
                        rw [← hdfr] at this
                        exact this.dress
                  · cases hy
                · cases hy
          · cases hent
        · cases hent
      · cases h
    · cases h
  · cases h

/-! ### every piece of code -/
theorem code_sound {F : Fence} (hF : Wide F) {round : Bool} (hro : round = false → F = Fence.wide) {call : CallF} (hC : CallOK C w0 call) (hD : DrawOK C w0 call) (hM : C.P.follows .mixedOrders = true) (hN : NamesOK C.P) :
    ∀ m, RunOK C w0 B F (evCode C call round m) ∧ LoopOK C w0 B F (evCode C call round m) := by
  intro m
  induction m with
  | zero => exact ⟨fun _ _ _ _ h => by simp [evCode] at h, fun _ _ _ _ h => by simp [evCode] at h⟩
  | succ m ih =>
    obtain ⟨ihR, ihL⟩ := ih
    have hloop : LoopOK C w0 B F (evCode C call round (m + 1)) := by
      intro n c env σ ι w a l Q hB hS hE hd h hQ b k cs hbr hb hr
      simp only [evCode, codeStep, seqRun] at h
      split at h
      · rename_i l1 hl1
        have hall := allOf_spec h
        let K : Act → World → Prop := fun a1 w1 => ∃ e a' w', Q e a' w' ∧ ArrivesIn (Machine.fenced C.P F) C.P (lone (b.atR a1 (.code c :: .inLoop c :: k)) cs w1) b k cs e a' w'
        have hgoal : GoalC C w0 B ι σ w l1 (Exit.then K Q) := by
          intro ex env' σ' hm ι' a' w' hmv hE' hd'
          obtain ⟨y, hy, hsub⟩ := hall _ hm
          cases ex with
          | normal => exact ihL (Nat.le_trans hB hmv.next) hmv.sim hE' hd' hy (hQ.sub hmv hsub) b k cs hbr hb hr
          | exit id => simp only [thenRun] at hy; cases hy; exact (hQ.sub hmv hsub).here hmv.sim hE' hd'
          | goto id => simp only [thenRun] at hy; cases hy; exact (hQ.sub hmv hsub).here hmv.sim hE' hd'
          | ret => simp only [thenRun] at hy; cases hy; exact (hQ.sub hmv hsub).here hmv.sim hE' hd'
        obtain ⟨e, a₁, w₁, hq, harr⟩ := ihR (n := n) hB hS hE hd hl1 hgoal b (.inLoop c :: k) cs hbr hb hr
        cases e with
        | normal =>
          obtain ⟨e₂, a₂, w₂, hq₂, harr₂⟩ := hq
          exact ⟨e₂, a₂, w₂, hq₂, .of_steps (StepsIn.trans harr (.one (fenced_calm hb hr rfl) stepR_inLoop)) harr₂⟩
        | exit id => exact ⟨_, a₁, w₁, hq, .pass (x := .inLoop c) rfl (fun _ _ => .inl (by simp)) harr⟩
        | goto l => exact ⟨_, a₁, w₁, hq, .pass (x := .inLoop c) rfl (fun _ _ => .inl (by simp)) harr⟩
        | ret => exact ⟨_, a₁, w₁, hq, .pass (x := .inLoop c) rfl (fun _ _ => .inl (by simp)) harr⟩
        | panic ch => exact ⟨_, a₁, w₁, hq, .pass (x := .inLoop c) rfl (fun _ _ => .inl (by simp)) harr⟩
        | outgrown => exact ⟨_, a₁, w₁, hq, .pass (x := .inLoop c) rfl (fun _ _ => .inl (by simp)) harr⟩
      · cases h
    refine ⟨?_, hloop⟩
    intro n c env σ ι w a l Q hB hS hE hd h hQ
    simp only [evCode] at h
    cases c with
    | skip => simp only [codeStep] at h; cases h; exact wpIn_skip (hQ.here hS hE hd)
    | label _ => simp only [codeStep] at h; cases h; exact wpIn_label (hQ.here hS hE hd)
    | exit id => simp only [codeStep] at h; cases h; exact wpIn_exit (hQ.here hS hE hd)
    | goto g => simp only [codeStep] at h; cases h; exact wpIn_goto (hQ.here hS hE hd)
    | ret => simp only [codeStep] at h; cases h; exact wpIn_ret (hQ.here hS hE hd)
    | refuse _ => simp only [codeStep] at h; cases h
    | region id ops draw =>
      simp only [codeStep] at h
      cases draw with
      | true =>
        simp only [regionR] at h
        split at h
        · rename_i l1 hl1
          cases h
          exact wpIn_region_any hM (hD hF hS hE hl1 (goalR_of hd hQ))
        · cases h
      | false =>
        simp only [regionR] at h
        split at h
        · rename_i l1 hl1
          cases h
          refine wpIn_region ?_
          have := evOps_sound hF (n := n) (Q := Q) hC (ops := ops) ops.toList 0 rfl hS hE hl1 (goalR_of hd hQ)
          rw [List.range_eq_range']
          simpa using this
        · cases h
    | seq x y =>
      simp only [codeStep, seqRun] at h
      split at h
      · rename_i l1 hl1
        exact wpIn_seq (ihR hB hS hE hd hl1 (thenRun_goal hB ihR (allOf_spec h) hQ))
      · cases h
    | cond c x y =>
      simp only [codeStep, condRun] at h
      split at h
      · rename_i t ht
        have hc : a.eval c = .bool t := (hE.eval ht).flat_eq rfl
        refine wpIn_cond hc ?_
        split at h
        · exact ihR hB hS hE hd h hQ
        · exact ihR hB hS hE hd h hQ
      · cases h
    | block id x =>
      simp only [codeStep, blockRun] at h
      split at h
      · rename_i l1 hl1
        cases h
        exact wpIn_block (ihR hB hS hE hd hl1 (unblock_goal hQ))
      · cases h
    | loop x =>
      intro b k cs hbr hb hr
      obtain ⟨e, a', w', hq, harr⟩ := hloop (n := n) hB hS hE hd h hQ b k cs hbr hb hr
      exact ⟨e, a', w', hq, .of_steps (.one (fenced_calm hb hr rfl) stepR_loop) harr⟩
    | scope x =>
      simp only [codeStep] at h
      cases round with
      | true => cases h
      | false =>
        obtain rfl := hro rfl
        refine wpIn_wide.2 ?_
        intro b k cs
        obtain ⟨e, a', w', hq, harr⟩ := scope_arrives ihR m hB hS hE hd h hQ b k cs
        exact ⟨e, a', w', hq, .of_steps (.one step_scope) harr⟩
    | rangeFunc f ps assign body =>
      simp only [codeStep] at h
      cases round with
      | true => cases h
      | false =>
        obtain rfl := hro rfl
        exact range_wpIn hB hF rfl hC hN hS hE hd h hQ
end
end Sd
