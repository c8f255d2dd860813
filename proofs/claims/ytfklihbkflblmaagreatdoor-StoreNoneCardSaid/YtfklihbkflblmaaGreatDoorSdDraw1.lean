import Derived.Test.YtfklihbkflblmaaGreatDoorSdCall3
set_option linter.all false
namespace Sd
open Go Go.RowKit
section
variable {C : Ctx} {w0 : World} {ι : Inj} {σ : LS} {w : World}

/-! ## Regions that draw their order: what an operation asks -/
theorem all1_congr {env env' : Env} : ∀ {xs : List Operand}, (∀ x ∈ xs, ev1 env x = ev1 env' x) → all1 env xs = all1 env' xs := by
  intro xs
  induction xs with
  | nil => intro _; rfl
  | cons x xs ih =>
    intro h
    simp only [all1, h x List.mem_cons_self, ih fun y hy => h y (List.mem_cons_of_mem _ hy)]
theorem flatOps_congr {env env' : Env} {o : Oper} (h : ∀ x ∈ o.op.operands, ev1 env x = ev1 env' x) : flatOps env o = flatOps env' o := by
  unfold flatOps
  rw [Bool.eq_iff_iff, List.all_eq_true, List.all_eq_true]
  constructor
  · intro k x hx; have := k x hx; rwa [h x (by simpa using hx)] at this
  · intro k x hx; have := k x hx; rwa [← h x (by simpa using hx)] at this
theorem pureOp_congr {env env' : Env} {o : Oper} (hs : ∀ cs b, o.op ≠ .select cs b) (h : ∀ x ∈ o.op.operands, ev1 env x = ev1 env' x) : pureOp C o env σ = pureOp C o env' σ := by
  unfold pureOp
  rw [execOp_congr o hs fun x hx => show ρ env x = ρ env' x by simp only [ρ, h x hx]]
theorem pureIf_congr {env env' : Env} {o : Oper} {b : Bool} (hs : ∀ cs b, o.op ≠ .select cs b) (h : ∀ x ∈ o.op.operands, ev1 env x = ev1 env' x) : pureIf b C o env σ = pureIf b C o env' σ := by
  unfold pureIf
  rw [pureOp_congr hs h]
theorem bound_congr {env env' : Env} {d : Nat} {x : Option Operand} (h : ∀ y, x = some y → ev1 env y = ev1 env' y) : bound env d x = bound env' d x := by
  cases x with
  | none => rfl
  | some y => simp only [bound, h y rfl]
theorem evOp_congr {call : CallF} {env env' : Env} {o : Oper} (h : ∀ x ∈ o.op.operands, ev1 env x = ev1 env' x) : evOp C call o env σ = evOp C call o env' σ := by
  have hs : ∀ cs b, o.op = .select cs b → evOp C call o env σ = evOp C call o env' σ := by intro cs b ho; simp only [evOp, ho]
  by_cases hsel : ∃ cs b, o.op = .select cs b
  · obtain ⟨cs, b, ho⟩ := hsel; exact hs cs b ho
  · have hsel : ∀ cs b, o.op ≠ .select cs b := fun cs b ho => hsel ⟨cs, b, ho⟩
    have hp : pureOp C o env σ = pureOp C o env' σ := pureOp_congr hsel h
    have hf : flatOps env o = flatOps env' o := flatOps_congr h
    have hpi : ∀ b, pureIf b C o env σ = pureIf b C o env' σ := fun b => pureIf_congr hsel h
    cases ho : o.op with
    | call c =>
      rw [ho] at h
      have hargs : all1 env c.args.toList = all1 env' c.args.toList := all1_congr fun x hx => h x (by simp only [Op.operands, Call.operands, Array.mem_append]; exact .inr (by simpa using hx))
      simp only [evOp, ho, callee]
      cases hc : c.callee with
      | value f =>
        have hff := h f (by simp [Op.operands, Call.operands, hc])
        simp only [callOp, hff, hargs]
      | invoke r name =>
        have hff := h r (by simp [Op.operands, Call.operands, hc])
        simp only [invokeOp, hff, hargs]
      | builtin b =>
        simp only [builtinOp, hargs]
        cases all1 env' c.args.toList with
        | none => rfl
        | some args =>
          cases b <;> simp only [builtinL, lenOp, lenAt, hf, hpi]
    | slice t x lo hi mx =>
      rw [ho] at h
      have h1 := h x (by simp [Op.operands])
      have h2 : ∀ d, bound env d lo = bound env' d lo := fun d => bound_congr fun y hy => h y (by subst hy; simp [Op.operands])
      have h3 : ∀ d, bound env d hi = bound env' d hi := fun d => bound_congr fun y hy => h y (by subst hy; simp [Op.operands])
      have h4 : ∀ d y, mx = some y → bound env d (some y) = bound env' d (some y) := fun d y hy => bound_congr fun z hz => by cases hz; exact h y (by subst hy; simp [Op.operands])
      simp only [evOp, ho, sliceOp, h1, hf, hpi]
      cases ev1 env' x with
      | none => rfl
      | some v =>
        simp only
        cases flat v with
        | true => rfl
        | false =>
          simp only
          congr 1
          have e1 : ∀ n sz b off, sliceArr env n sz b off lo hi mx = sliceArr env' n sz b off lo hi mx := by
            intro n sz b off; simp only [sliceArr, h2, h3]
          have e2 : ∀ sz b off len cap, sliceSl env sz b off len cap lo hi mx = sliceSl env' sz b off len cap lo hi mx := by
            intro sz b off len cap
            simp only [sliceSl, h2, h3]
            cases mx with
            | none => rfl
            | some y => simp only [h4 0 y rfl]
          simp only [sliceL, e1, e2]
    | makeFunc fn a b =>
      rw [ho] at h
      have h1 : all1 env a.toList = all1 env' a.toList := all1_congr fun x hx => h x (by simp only [Op.operands, Array.mem_append]; exact .inl (by simpa using hx))
      have h2 : all1 env b.toList = all1 env' b.toList := all1_congr fun x hx => h x (by simp only [Op.operands, Array.mem_append]; exact .inr (by simpa using hx))
      simp only [evOp, ho, funcOp, h1, h2]
    | build t ps =>
      rw [ho] at h
      have h1 : all1 env (ps.toList.map (·.2)) = all1 env' (ps.toList.map (·.2)) := all1_congr fun x hx => h x (by simpa [Op.operands] using hx)
      simp only [evOp, ho, buildOp, h1]
    | buildSlice t len ps =>
      rw [ho] at h
      have h1 : all1 env (ps.toList.map (·.2)) = all1 env' (ps.toList.map (·.2)) := all1_congr fun x hx => h x (by simpa [Op.operands] using hx)
      simp only [evOp, ho, buildSliceOp, h1]
    | _ =>
      rw [ho] at h
      simp only [Op.operands, Array.mem_toList_iff, List.mem_toArray, List.mem_cons, List.not_mem_nil, or_false, forall_eq_or_imp, forall_eq] at h
      simp only [evOp, ho, moveOp, pickOp, allocOp, boxOp, loadOp, storeOp, nilCheckOp, fieldAddrOp, indexAddrOp, extractOp, fieldOp, indexOp, ifaceOp, assertOp, makeSliceOp, lookupOp, mapUpdateOp, rangeOp, nextOp, entryOp, convertOp, binOpOp, binSlow, unOpOp, h, hp, hpi, hf]
end
end Sd
