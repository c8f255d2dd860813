import Derived.Test.YtfklihbkflblmaaGreatDoorSdDraw2
set_option linter.all false
namespace Sd
open Go Go.RowKit
section
variable {C : Ctx}

theorem plain_eq {f g : LS → Out} (h : f = g) (hg : Plain g) : Plain f := h ▸ hg
theorem state_plain {call : CallF} {o : Oper} {env : Env} (hM : isM o.op = false) (hL : isL o.op = false) (hA : isA o.op = false) : Plain (evOp C call o env) := by
  cases ho : o.op with
  | call c =>
    rw [ho] at hM hL
    cases hc : c.callee with
    | value f => simp [isM, hc] at hM
    | invoke r name => simp [isM, hc] at hM
    | builtin b =>
      refine plain_eq (g := builtinOp C o b c env) (by funext σ; simp only [evOp, ho, callee, hc]) ?_
      cases hargs : all1 env c.args.toList with
      | none => intro σ l h; simp [builtinOp, hargs] at h
      | some args =>
        refine plain_eq (g := builtinL C o b c args env) (by funext σ; simp only [builtinOp, hargs]) ?_
        cases b with
        | cap => exact plain_eq (by funext σ; rfl) (plain_cap c args)
        | unsafeSliceData => exact plain_eq (by funext σ; rfl) (plain_sliceData args)
        | min => exact plain_eq (by funext σ; rfl) (plain_pureIf _ o env)
        | max => exact plain_eq (by funext σ; rfl) (plain_pureIf _ o env)
        | len => simp [isL, hc] at hL
        | _ => first | (simp [isM, hc] at hM; done) | (intro σ l h; simp only [builtinL] at h; cases h)
  | move x => exact plain_eq (by funext σ; simp only [evOp, ho]; rfl) (plain_okm (ev1 env x))
  | assign x => exact plain_eq (by funext σ; simp only [evOp, ho]; rfl) (plain_okm (ev1 env x))
  | pick c a b => exact plain_eq (by funext σ; simp only [evOp, ho]) (plain_pick env c a b)
  | nilCheck x => exact plain_eq (by funext σ; simp only [evOp, ho]) (plain_nilCheck env x)
  | fieldAddr s x f => exact plain_eq (by funext σ; simp only [evOp, ho]; rfl) (plain_fieldAddr env s x f)
  | indexAddr t x i => exact plain_eq (by funext σ; simp only [evOp, ho]; rfl) (plain_indexAddr env t x i)
  | extract t ix => exact plain_eq (by funext σ; simp only [evOp, ho]) (plain_extract env t ix)
  | slice t x lo hi mx => exact plain_eq (by funext σ; simp only [evOp, ho]; rfl) (plain_slice o env t x lo hi mx)
  | build t ps => exact plain_eq (by funext σ; simp only [evOp, ho]; rfl) (plain_build env t ps)
  | field t x f => exact plain_eq (by funext σ; simp only [evOp, ho]; rfl) (plain_field env t x f)
  | index t x i => exact plain_eq (by funext σ; simp only [evOp, ho]; rfl) (plain_index o env t x i)
  | makeInterface t x => exact plain_eq (by funext σ; simp only [evOp, ho]; rfl) (plain_iface env t x)
  | makeFunc fn a b => exact plain_eq (by funext σ; simp only [evOp, ho]) (plain_func env fn a b)
  | typeAssert x u t ok => exact plain_eq (by funext σ; simp only [evOp, ho]; rfl) (plain_assert env x t ok)
  | binOp op t x y p => exact plain_eq (by funext σ; simp only [evOp, ho]; rfl) (plain_binOp o env op t x y)
  | unOp op t x => exact plain_eq (by funext σ; simp only [evOp, ho]; rfl) (plain_unOp o env x)
  | _ =>
    rw [ho] at hM hL hA
    first
      | (simp [isM] at hM; done)
      | (simp [isL] at hL; done)
      | (simp [isA] at hA; done)
      | (intro σ l h; simp only [evOp, ho] at h; cases h)
theorem looks_eq {f g : LS → Out} (h : f = g) (hg : Looks g) : Looks f := h ▸ hg
theorem state_looks {call : CallF} {o : Oper} {env : Env} (hL : isL o.op = true) : Looks (evOp C call o env) := by
  cases ho : o.op with
  | call c =>
    rw [ho] at hL
    cases hc : c.callee with
    | value f => simp [isL, hc] at hL
    | invoke r name => simp [isL, hc] at hL
    | builtin b =>
      refine looks_eq (g := builtinOp C o b c env) (by funext σ; simp only [evOp, ho, callee, hc]) ?_
      cases hargs : all1 env c.args.toList with
      | none => intro σ l h; simp [builtinOp, hargs] at h
      | some args =>
        refine looks_eq (g := builtinL C o b c args env) (by funext σ; simp only [builtinOp, hargs]) ?_
        cases b with
        | len => exact looks_eq (by funext σ; rfl) (looks_len o c args env)
        | _ => simp [isL, hc] at hL
  | load t a => exact looks_eq (by funext σ; simp only [evOp, ho]; rfl) (looks_load env t a)
  | lookup t m k ok => exact looks_eq (by funext σ; simp only [evOp, ho]; rfl) (looks_lookup env t m k ok)
  | entry x => exact looks_eq (by funext σ; simp only [evOp, ho]) (looks_entry env x)
  | convert s d x => exact looks_eq (by funext σ; simp only [evOp, ho]; rfl) (looks_convert o env s d x)
  | _ => rw [ho] at hL; simp [isL] at hL
theorem lays_eq {f g : LS → Out} (h : f = g) (hg : Lays g) : Lays f := h ▸ hg
theorem state_lays {call : CallF} {o : Oper} {env : Env} (hA : isA o.op = true) : Lays (evOp C call o env) := by
  cases ho : o.op with
  | alloc e => exact lays_eq (by funext σ; simp only [evOp, ho]; rfl) (lays_alloc e)
  | box e x => exact lays_eq (by funext σ; simp only [evOp, ho]) (lays_box env e x)
  | buildSlice t len ps => exact lays_eq (by funext σ; simp only [evOp, ho]; rfl) (lays_buildSlice env t len ps)
  | makeSlice t x y => exact lays_eq (by funext σ; simp only [evOp, ho]; rfl) (lays_makeSlice env t x y)
  | makeMap t r =>
    cases r with
    | none =>
      refine lays_eq (g := fun σ => okv (.map (some (Nat.mul 2 σ.next))) (σ.new (.map [] 0))) (by funext σ; simp only [evOp, ho]) ?_
      intro σ l h
      cases h
      refine ⟨_, _, rfl, fun σ' hn => ?_⟩
      simp only [okv, hn]
    | some x => intro σ l h; simp only [evOp, ho] at h; cases h
  | _ => rw [ho] at hA; simp [isA] at hA
/-- what turns nothing makes no call -/
theorem nonM_call {call call' : CallF} {o : Oper} {env : Env} {σ : LS} (hM : isM o.op = false) : evOp C call o env σ = evOp C call' o env σ := by
  cases ho : o.op with
  | call c =>
    rw [ho] at hM
    cases hc : c.callee with
    | value f => simp [isM, hc] at hM
    | invoke r name => simp [isM, hc] at hM
    | builtin b => simp only [evOp, ho, callee, hc]
  | _ => simp only [evOp, ho]
end
end Sd
