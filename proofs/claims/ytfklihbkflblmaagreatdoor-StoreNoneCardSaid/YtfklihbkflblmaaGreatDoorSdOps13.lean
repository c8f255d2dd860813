import Derived.Test.YtfklihbkflblmaaGreatDoorSdOps12
set_option linter.all false
namespace Sd
open Go Go.RowKit
section
variable {C : Ctx} {w0 : World} {ι : Inj} {σ : LS} {w : World} {K : Value → World → Prop}

/-- what is asked of the calls -/
structure CallOK (C : Ctx) (w0 : World) (call : CallF) : Prop where
  func : ∀ {ι σ w} {f : FuncId} {args args' : List Value} {l : List (Value × LS)} {K : Value → World → Prop}, Sim C w0 ι σ w → VL ι args args' → call (.func f) args σ = some l → Goal C w0 ι σ w l K →
    UponV C.P K ((callFunc f args'.toArray).run C.P w)
  yield : ∀ {ι σ w} {b : Nat} {L : Loc} {args args' : List Value} {l : List (Value × LS)} {K : Value → World → Prop}, Sim C w0 ι σ w → VL ι args args' → ι b = some L → call (.yield (2 * b)) args σ = some l → Goal C w0 ι σ w l K →
    UponV C.P K ((Instr.yield L.r args'.toArray).run C.P w)

theorem callVal_sound {call : CallF} (hC : CallOK C w0 call) {f f' : Value} {args args' : List Value} {l : List (Value × LS)} (hS : Sim C w0 ι σ w) (hf : VR ι f f') (ha : VL ι args args')
    (h : callVal call f args σ = some l) (hK : Goal C w0 ι σ w l K) : UponV C.P K ((do let d ← Deferred.ofValue f' args'.toArray; invoke d.target d.args : Sem Next).run C.P w) := by
  unfold callVal at h
  split at h
  · rename_i g first cap
    cases hf with
    | atom h => simp [atomic] at h
    | func h1 h2 h3 h4 =>
      rename_i first' cap'
      have := hC.func hS ((VL.of_arr h1 h3).append ha |>.append (VL.of_arr h2 h4)) h hK
      simp only [Deferred.ofValue, Sem.run_bind, Sem.run_pure, Result.andThen_ok, invoke]
      have e : (first'.toList ++ args' ++ cap'.toList).toArray = first' ++ args'.toArray ++ cap' := by apply Array.ext'; simp
      rw [e] at this
      exact this
  · rename_i b _ _
    cases hf with
    | atom h => simp [atomic] at h
    | yield hL =>
      rename_i b L
      have := hC.yield hS ha hL h hK
      simp only [Deferred.ofValue, Sem.run_bind, Sem.run_pure, Result.andThen_ok, invoke, Array.empty_append]
      exact this
  · cases h
theorem callOp_sound {call : CallF} (hC : CallOK C w0 call) {env : Env} {a : Act} {o : Oper} {c : Call} {f : Operand} {l : List (Value × LS)} (ho : o.op = .call c) (hc : c.callee = .value f) (hS : Sim C w0 ι σ w) (hE : EnvR ι env a.tmps)
    (h : callOp call env f c.args σ = some l) (hK : Goal C w0 ι σ w l K) : UponV C.P K ((execOp a.eval o).run C.P w) := by
  unfold callOp at h
  split at h
  · rename_i fv hf
    split at h
    · rename_i args hargs
      have := callVal_sound hC hS (hE.eval hf) (hE.all hargs) h hK
      have e : (c.args.toList.map a.eval).toArray = c.args.map a.eval := by apply Array.ext'; simp
      rw [e] at this
      simp only [execOp, ho, resolve, hc]
      exact this
    · cases h
  · cases h
theorem callMethod_run {P : Program} {w : World} {t : TypeId} {v : Value} {name : String} {args : Array Value} {i : TypeInfo} {e : TypeId} {m : Method} {f : FuncId} (hi : P.info? t = some i) (hu : P.underlying t = some (.pointer e)) (hm : i.methods.find? (·.name == name) = some m)
    (hf : m.func = some (f, true)) (hp : m.path.isEmpty = true) : (callMethod (.iface t v) name args).run P w = (callFunc f (#[v] ++ args)).run P w := by
  have hp : m.path.toList = [] := by
    have : m.path = #[] := by simpa using hp
    rw [this]
  have key : ∀ n, (method (n + 1) t v name).run P w = .ok (f, v) w := by
    intro n
    simp [method, typeInfo, hi, hm, hp, follow, hf, receiverAt, run_underlying hu, Place.get]
  have hd : P.types.size + Made.depth = (P.types.size + Made.depth - 1) + 1 := by
    have : 0 < Made.depth := by decide
    omega
  simp only [callMethod, Sem.run_bind, run_program, Result.andThen_ok]
  rw [hd, key]
  rfl
theorem invokeOp_sound {call : CallF} (hC : CallOK C w0 call) {env : Env} {a : Act} {o : Oper} {c : Call} {r : Operand} {name : String} {l : List (Value × LS)} (ho : o.op = .call c) (hc : c.callee = .invoke r name) (hS : Sim C w0 ι σ w) (hE : EnvR ι env a.tmps)
    (h : invokeOp C call env r name c.args σ = some l) (hK : Goal C w0 ι σ w l K) : UponV C.P K ((execOp a.eval o).run C.P w) := by
  unfold invokeOp at h
  split at h
  · rename_i t v hr
    split at h
    · rename_i args hargs
      split at h
      · rename_i i hi
        split at h
        · rename_i e hu
          split at h
          · rename_i m hm
            split at h
            · rename_i f hf
              split at h
              · rename_i hp
                obtain ⟨v', hv', hv⟩ := (hE.eval hr).iface_any
                have := hC.func hS (.cons hv (hE.all hargs)) h hK
                have e : (v' :: c.args.toList.map a.eval).toArray = #[v'] ++ c.args.map a.eval := by apply Array.ext'; simp
                rw [e] at this
                simp only [execOp, ho, resolve, hc, hv', Sem.run_bind, Sem.run_pure, Result.andThen_ok, invoke]
                have e0 : (#[Value.iface t v'] ++ c.args.map a.eval)[0]? = some (.iface t v') := by rw [Array.getElem?_append_left (by simp)]; rfl
                have e1 : (#[Value.iface t v'] ++ c.args.map a.eval).extract 1 (#[Value.iface t v'] ++ c.args.map a.eval).size = c.args.map a.eval := by
                  apply Array.ext'
                  simp
                  rw [List.take_of_length_le (by simp)]
                rw [e0, e1]
                show UponV C.P K ((callMethod (.iface t v') name (c.args.map a.eval)).run C.P w)
                rw [callMethod_run hi hu hm hf hp]
                exact this
              · cases h
            · cases h
          · cases h
        · cases h
      · cases h
    · cases h
  · cases h
theorem builtin_sound {env : Env} {a : Act} {o : Oper} {c : Call} {b : Builtin} {l : List (Value × LS)} (ho : o.op = .call c) (hc : c.callee = .builtin b) (hS : Sim C w0 ι σ w) (hE : EnvR ι env a.tmps)
    (h : builtinOp C o b c env σ = some l) (hK : Goal C w0 ι σ w l K) : UponV C.P K ((execOp a.eval o).run C.P w) := by
  unfold builtinOp at h
  split at h
  · rename_i args hargs
    have ha := hE.all hargs
    unfold builtinL at h
    split at h
    · exact len_sound ho hc hS hE ha h hK
    · exact cap_sound ho hc hS ha h hK
    · exact append_sound (xs := c.args) (ts := c.argTypes) (by rw [ho]; cases c; simp at hc; rw [hc]) hS hE ha h hK
    · exact copy_sound ho hc hS ha h hK
    · split at h
      · split at h
        · rename_i t ht; exact delete_sound ho hc ht hS ha h hK
        · cases h
      · cases h
    · split at h
      · split at h
        · rename_i t ht; exact clear_sound ho hc ht hS ha h hK
        · cases h
      · cases h
    · exact sliceData_sound ho hc hS ha h hK
    · exact unsafeString_sound ho hc hS ha h hK
    · exact pureIf_sound hS hE id (by simp [ho]) h hK
    · exact pureIf_sound hS hE id (by simp [ho]) h hK
    · cases h
  · cases h
theorem callee_sound {call : CallF} (hC : CallOK C w0 call) {env : Env} {a : Act} {o : Oper} {c : Call} {l : List (Value × LS)} (ho : o.op = .call c) (hS : Sim C w0 ι σ w) (hE : EnvR ι env a.tmps)
    (h : callee C call o c env σ = some l) (hK : Goal C w0 ι σ w l K) : UponV C.P K ((execOp a.eval o).run C.P w) := by
  unfold callee at h
  split at h
  · rename_i f hc; exact callOp_sound hC ho hc hS hE h hK
  · rename_i b hc; exact builtin_sound ho hc hS hE h hK
  · rename_i r name hc; exact invokeOp_sound hC ho hc hS hE h hK

theorem evOp_sound {call : CallF} (hC : CallOK C w0 call) {env : Env} {a : Act} {o : Oper} {l : List (Value × LS)} (hS : Sim C w0 ι σ w) (hE : EnvR ι env a.tmps)
    (h : evOp C call o env σ = some l) (hK : Goal C w0 ι σ w l K) : UponV C.P K ((execOp a.eval o).run C.P w) := by
  unfold evOp at h
  split at h
  · rename_i ho; exact move_sound (.inl ho) hS hE h hK
  · rename_i ho; exact move_sound (.inr ho) hS hE h hK
  · rename_i ho; exact pick_sound ho hS hE h hK
  · rename_i ho; exact alloc_sound ho hS hE h hK
  · rename_i ho; exact box_sound ho hS hE h hK
  · rename_i ho; exact load_sound ho hS hE h hK
  · rename_i ho; exact store_sound ho hS hE h hK
  · rename_i ho; exact nilCheck_sound ho hS hE h hK
  · rename_i ho; exact fieldAddr_sound ho hS hE h hK
  · rename_i ho; exact indexAddr_sound ho hS hE h hK
  · rename_i ho; exact extract_sound ho hS hE h hK
  · rename_i ho; exact sliceOp_sound ho hS hE h hK
  · rename_i ho; exact build_sound ho hS hE h hK
  · rename_i ho; exact field_sound ho hS hE h hK
  · rename_i ho; exact index_sound ho hS hE h hK
  · rename_i ho; exact iface_sound ho hS hE h hK
  · rename_i ho; exact func_sound ho hS hE h hK
  · rename_i ho; exact assert_sound ho hS hE h hK
  · rename_i ho; exact buildSlice_sound ho hS hE h hK
  · rename_i ho; exact makeSlice_sound ho hS hE h hK
  · rename_i ho
    split at h
    · exact makeMap_sound ho hS h hK
    · cases h
  · rename_i ho; exact lookup_sound ho hS hE h hK
  · rename_i ho; exact mapUpdate_sound (.inl ho) hS hE h hK
  · rename_i ho; exact mapUpdate_sound (.inr ho) hS hE h hK
  · rename_i ho; exact range_sound ho hS hE h hK
  · rename_i ho; exact next_sound ho hS hE h hK
  · rename_i ho; exact entry_sound ho hS hE h hK
  · rename_i ho; exact convert_sound ho hS hE h hK
  · rename_i ho; exact binOp_sound ho hS hE h hK
  · rename_i ho; exact unOp_sound ho hS hE h hK
  · rename_i ho; exact callee_sound hC ho hS hE h hK
  · cases h
theorem evOpT_sound {call : CallF} (hC : CallOK C w0 call) {env : Env} {a : Act} {o : Oper} {l : List (Value × LS)} (hS : Sim C w0 ι σ w) (hE : EnvR ι env a.tmps)
    (h : evOpT C call o env σ = some l) (hK : Goal C w0 ι σ w l K) : UponV C.P K ((execOp a.eval o).run C.P w) := by
  unfold evOpT at h
  split at h
  · rename_i l' hl; cases h; exact evOp_sound hC hS hE hl hK
  · unfold tokOp at h
    split at h
    · rename_i ho
      split at h
      · rename_i v hv
        split at h
        · rename_i u hu
          exact tokBin_sound ho hS (hE.eval hv) (hE.eval hu) h hK
        · cases h
      · cases h
    · cases h
end
end Sd
