import Derived.Test.YtfklihbkflblmaaGreatDoorSdCode1
import Derived.ScopeJumps
import Derived.RangeFuncRecord
set_option linter.all false
namespace Sd
open Go Go.RowKit
section
variable {C : Ctx} {w0 : World} {B : Nat} {ι : Inj} {σ : LS} {w : World}

def LS.dress (σ : LS) (d : List Nat) : LS := { σ with dfr := d }
theorem Sim.dress (h : Sim C w0 ι σ w) (d : List Nat) : Sim C w0 ι (σ.dress d) w := ⟨h.below, h.dom, h.live, h.inj, h.ro, h.flo⟩
theorem Sim.undress {d : List Nat} (h : Sim C w0 ι (σ.dress d) w) : Sim C w0 ι σ w := ⟨h.below, h.dom, h.live, h.inj, h.ro, h.flo⟩
theorem Moved.redress {ι' : Inj} {σ' : LS} {w' : World} (h : Moved C w0 ι σ w ι' σ' w') (d : List Nat) : Moved C w0 ι (σ.dress d) w ι' (σ'.dress d) w' :=
  ⟨h.le, h.sim.dress d, h.next, h.size, h.frame, h.fresh, h.floor, h.fl, rfl, h.keepD, h.news⟩
def MovedC (C : Ctx) (w0 : World) (ι : Inj) (σ : LS) (w : World) (ι' : Inj) (σ' : LS) (w' : World) : Prop := Moved C w0 ι σ w ι' (σ'.dress σ.dfr) w'
theorem Moved.toC {ι' : Inj} {σ' : LS} {w' : World} (h : Moved C w0 ι σ w ι' σ' w') : MovedC C w0 ι σ w ι' σ' w' := by
  have := h.redress σ.dfr
  exact this
theorem MovedC.next {ι' : Inj} {σ' : LS} {w' : World} (h : MovedC C w0 ι σ w ι' σ' w') : σ.next ≤ σ'.next := (show Moved C w0 ι σ w ι' (σ'.dress σ.dfr) w' from h).next
theorem MovedC.sim {ι' : Inj} {σ' : LS} {w' : World} (h : MovedC C w0 ι σ w ι' σ' w') : Sim C w0 ι' σ' w' := Sim.undress (Moved.sim h)
theorem MovedC.trans {ι' ι'' : Inj} {σ' σ'' : LS} {w' w'' : World} (a : MovedC C w0 ι σ w ι' σ' w') (b : MovedC C w0 ι' σ' w' ι'' σ'' w'') : MovedC C w0 ι σ w ι'' σ'' w'' :=
  Moved.trans a (Moved.redress b σ.dfr)

/-- the marks among the deferred calls -/
inductive DefR (B : Nat) (ι : Inj) (σ : LS) : List Nat → List Deferred → Prop where
  | nil : DefR B ι σ [] []
  | cons {d : Nat} {L : Loc} {l : List Nat} {ds : List Deferred} (hL : ι d = some L) (hg : σ.heap.get d = some .deferred) (hf : B ≤ d) (ho : ∀ x ∈ l, x < d) (t : DefR B ι σ l ds) : DefR B ι σ (d :: l) ({ target := .collected L.r, args := #[] } :: ds)
theorem DefR.moved {ι' : Inj} {σ' : LS} {w' : World} (hm : Moved C w0 ι σ w ι' σ' w') {l : List Nat} {ds : List Deferred} (h : DefR B ι σ l ds) : DefR B ι' σ' l ds := by
  induction h with
  | nil => exact .nil
  | cons hL hg hf ho _ ih => exact .cons (hm.le _ _ hL) (hm.keepD _ hg) hf ho ih
theorem DefR.lt (hS : Sim C w0 ι σ w) {l : List Nat} {ds : List Deferred} (h : DefR B ι σ l ds) : ∀ x ∈ l, x < σ.next := by
  induction h with
  | nil => intro x hx; cases hx
  | cons hL _ _ _ _ ih =>
    intro x hx
    rcases List.mem_cons.1 hx with rfl | hx
    · exact (hS.dom _ _ hL).1
    · exact ih x hx
theorem DefR.dress {d : List Nat} {l : List Nat} {ds : List Deferred} (h : DefR B ι σ l ds) : DefR B ι (σ.dress d) l ds := by
  induction h with
  | nil => exact .nil
  | cons hL hg hf ho _ ih => exact .cons hL hg hf ho ih
theorem DefR.undress {d : List Nat} {l : List Nat} {ds : List Deferred} (h : DefR B ι (σ.dress d) l ds) : DefR B ι σ l ds := by
  induction h with
  | nil => exact .nil
  | cons hL hg hf ho _ ih => exact .cons hL hg hf ho ih

def exitOf : Ex → Exit
  | .normal => .normal
  | .exit id => .exit id
  | .goto l => .goto l
  | .ret => .ret
/-- what is asked behind a piece of code -/
def GoalC (C : Ctx) (w0 : World) (B : Nat) (ι : Inj) (σ : LS) (w : World) (l : List (Ex × Env × LS)) (Q : Exit → Act → World → Prop) : Prop :=
  ∀ ex env' σ', (ex, env', σ') ∈ l → ∀ ι' a' w', MovedC C w0 ι σ w ι' σ' w' → EnvR ι' env' a'.tmps → DefR B ι' σ' σ'.dfr a'.defers → Q (exitOf ex) a' w'
theorem GoalC.sub {l l' : List (Ex × Env × LS)} {Q : Exit → Act → World → Prop} {ι' : Inj} {σ' : LS} {w' : World} (h : GoalC C w0 B ι σ w l Q) (hm : MovedC C w0 ι σ w ι' σ' w') (hs : ∀ z ∈ l', z ∈ l) : GoalC C w0 B ι' σ' w' l' Q :=
  fun ex env2 σ2 hz ι2 a2 w2 hm2 hE hd => h ex env2 σ2 (hs _ hz) ι2 a2 w2 (hm.trans hm2) hE hd
theorem GoalC.here {env : Env} {a : Act} {ex : Ex} {Q : Exit → Act → World → Prop} (h : GoalC C w0 B ι σ w [(ex, env, σ)] Q) (hS : Sim C w0 ι σ w) (hE : EnvR ι env a.tmps) (hd : DefR B ι σ σ.dfr a.defers) : Q (exitOf ex) a w :=
  h ex env σ (by simp) ι a w (Moved.toC (.refl hS)) hE hd

def RunOK (C : Ctx) (w0 : World) (B : Nat) (F : Fence) (run : RunF) : Prop :=
  ∀ {n : Nat} {c : Code} {env : Env} {σ : LS} {ι : Inj} {w : World} {a : Act} {l : List (Ex × Env × LS)} {Q : Exit → Act → World → Prop}, B ≤ σ.next → Sim C w0 ι σ w → EnvR ι env a.tmps → DefR B ι σ σ.dfr a.defers → run c env σ = some l →
    GoalC C w0 B ι σ w l Q → c.wpIn F n C.P Q a w
/-- a loop, from within -/
def LoopOK (C : Ctx) (w0 : World) (B : Nat) (F : Fence) (run : RunF) : Prop :=
  ∀ {n : Nat} {c : Code} {env : Env} {σ : LS} {ι : Inj} {w : World} {a : Act} {l : List (Ex × Env × LS)} {Q : Exit → Act → World → Prop}, B ≤ σ.next → Sim C w0 ι σ w → EnvR ι env a.tmps → DefR B ι σ σ.dfr a.defers → run (.loop c) env σ = some l →
    GoalC C w0 B ι σ w l Q → ∀ (b : Frame) (k : List Item) (cs : List Frame), b.roundOf = F.round → F.fn b.fn → F.room (cs.length + 1 + n) →
      ∃ e a' w', Q e a' w' ∧ ArrivesIn (Machine.fenced C.P F) C.P (lone (b.atR a (.code c :: .inLoop c :: k)) cs w) b k cs e a' w'

/-- what is asked of the regions that draw their order -/
def DrawOK (C : Ctx) (w0 : World) (call : CallF) : Prop :=
  ∀ {F : Fence} {n : Nat} {ops : Array Oper} {env : Env} {σ : LS} {ι : Inj} {w : World} {a : Act} {l : List (Env × LS)} {Q : Exit → Act → World → Prop}, Wide F → Sim C w0 ι σ w → EnvR ι env a.tmps → evDraw C call ops env σ = some l →
    GoalR C w0 ι σ w a l (Q .normal) → wpAnyIn F n C.P .any ops Q ops.size (Array.replicate ops.size false) a w.drew

theorem goalR_of {l : List (Env × LS)} {Q : Exit → Act → World → Prop} {a : Act} (hd : DefR B ι σ σ.dfr a.defers) (h : GoalC C w0 B ι σ w (l.map norm) Q) : GoalR C w0 ι σ w a l (Q .normal) := by
  intro env' σ' hm ι' a' w' hmv hE he
  refine h .normal env' σ' (List.mem_map.2 ⟨(env', σ'), hm, rfl⟩) ι' a' w' hmv.toC hE ?_
  rw [hmv.dfr, he]
  exact hd.moved hmv

theorem thenRun_goal (hB : B ≤ σ.next) {F : Fence} {n : Nat} {run : RunF} (hR : RunOK C w0 B F run) {b : Code} {l l' : List (Ex × Env × LS)} {Q : Exit → Act → World → Prop} (hall : ∀ r ∈ l, ∃ y, thenRun run b r = some y ∧ ∀ z ∈ y, z ∈ l')
    (hQ : GoalC C w0 B ι σ w l' Q) : GoalC C w0 B ι σ w l (Exit.then (b.wpIn F n C.P Q) Q) := by
  intro ex env' σ' hm ι' a' w' hmv hE hd
  obtain ⟨y, hy, hsub⟩ := hall _ hm
  cases ex with
  | normal =>
    exact hR (Nat.le_trans hB hmv.next) hmv.sim hE hd hy (hQ.sub hmv hsub)
  | exit id =>
    simp only [thenRun] at hy; cases hy
    exact (hQ.sub hmv hsub).here hmv.sim hE hd
  | goto id =>
    simp only [thenRun] at hy; cases hy
    exact (hQ.sub hmv hsub).here hmv.sim hE hd
  | ret =>
    simp only [thenRun] at hy; cases hy
    exact (hQ.sub hmv hsub).here hmv.sim hE hd

theorem unblock_goal {id : Nat} {l : List (Ex × Env × LS)} {Q : Exit → Act → World → Prop} (hQ : GoalC C w0 B ι σ w (l.map (unblock id)) Q) : GoalC C w0 B ι σ w l (Exit.inBlock id Q) := by
  intro ex env' σ' hm ι' a' w' hmv hE hd
  have key := fun ex2 (h2 : unblock id (ex, env', σ') = (ex2, env', σ')) => hQ ex2 env' σ' (List.mem_map.2 ⟨_, hm, h2⟩) ι' a' w' hmv hE hd
  cases ex with
  | normal => exact key .normal rfl
  | goto g => exact key (.goto g) rfl
  | ret => exact key .ret rfl
  | exit id' =>
    show (if id' = id then Q .normal a' w' else Q (.exit id') a' w')
    by_cases h : id' = id
    · rw [if_pos h]
      refine key .normal ?_
      subst h
      simp [unblock]
    · rw [if_neg h]
      refine key (.exit id') ?_
      have : Nat.beq id' id = false := by
        cases hb : Nat.beq id' id
        · rfl
        · exact absurd (Nat.eq_of_beq_eq_true hb) h
      simp only [unblock, this]

/-! ### scopes -/
theorem scope_arrives {run : RunF} (hR : RunOK C w0 B Fence.wide run) {body : Code} : ∀ (m : Nat) {c : Code} {env : Env} {σ : LS} {ι : Inj} {w : World} {a : Act} {l : List (Ex × Env × LS)} {Q : Exit → Act → World → Prop}, B ≤ σ.next → Sim C w0 ι σ w → EnvR ι env a.tmps → DefR B ι σ σ.dfr a.defers →
    scopeRun run body m c env σ = some l → GoalC C w0 B ι σ w l Q → ∀ (b : Frame) (k : List Item) (cs : List Frame), ∃ e a' w', Q e a' w' ∧ Arrives C.P (lone (b.at a (.code c :: .inScope body :: k)) cs w) b k cs e a' w' := by
  intro m
  induction m with
  | zero => intro c env σ ι w a l Q _ _ _ _ h; simp [scopeRun] at h
  | succ m ih =>
    intro c env σ ι w a l Q hB hS hE hd h hQ b k cs
    simp only [scopeRun] at h
    split at h
    · rename_i l1 hl1
      have hall := allOf_spec h
      -- what is asked of the first pass
      let Q' : Exit → Act → World → Prop := fun e a1 w1 => match e with
        | .goto g => match findLabel body g with
          | some rest => ∃ e a' w', Q e a' w' ∧ Arrives C.P (lone (b.at a1 (.code rest :: .inScope body :: k)) cs w1) b k cs e a' w'
          | none => Q (.goto g) a1 w1
        | e => Q e a1 w1
      have hgoal : GoalC C w0 B ι σ w l1 Q' := by
        intro ex env' σ' hm ι' a' w' hmv hE' hd'
        obtain ⟨y, hy, hsub⟩ := hall _ hm
        cases ex with
        | normal => simp only [scopeNext] at hy; cases hy; exact (hQ.sub hmv hsub).here hmv.sim hE' hd'
        | exit id => simp only [scopeNext] at hy; cases hy; exact (hQ.sub hmv hsub).here hmv.sim hE' hd'
        | ret => simp only [scopeNext] at hy; cases hy; exact (hQ.sub hmv hsub).here hmv.sim hE' hd'
        | goto g =>
          show (match findLabel body g with
            | some rest => ∃ e a2 w2, Q e a2 w2 ∧ Arrives C.P (lone (b.at a' (.code rest :: .inScope body :: k)) cs w') b k cs e a2 w2
            | none => Q (.goto g) a' w')
          simp only [scopeNext] at hy
          split at hy
          · rename_i rest hf
            rw [hf]
            exact ih (Nat.le_trans hB hmv.next) hmv.sim hE' hd' hy (hQ.sub hmv hsub) b k cs
          · rename_i hf
            rw [hf]
            cases hy
            exact (hQ.sub hmv hsub).here hmv.sim hE' hd'
      have hwp := wpIn_wide.1 (hR (n := 0) hB hS hE hd hl1 hgoal)
      obtain ⟨e, a₁, w₁, hq, harr⟩ := hwp b (.inScope body :: k) cs
      cases e with
      | normal => exact ⟨.normal, a₁, w₁, hq, Steps.trans harr (.one step_inScope)⟩
      | exit id => exact ⟨.exit id, a₁, w₁, hq, fun k' hk => harr k' (by simp [exitTo, hk])⟩
      | goto g =>
        cases hf : findLabel body g with
        | some rest =>
          have hq : ∃ e a' w', Q e a' w' ∧ Arrives C.P (lone (b.at a₁ (.code rest :: .inScope body :: k)) cs w₁) b k cs e a' w' := by
            have : (match findLabel body g with
              | some rest => ∃ e a2 w2, Q e a2 w2 ∧ Arrives C.P (lone (b.at a₁ (.code rest :: .inScope body :: k)) cs w₁) b k cs e a2 w2
              | none => Q (.goto g) a₁ w₁) := hq
            rw [hf] at this; exact this
          obtain ⟨e₂, a₂, w₂, hq₂, harr₂⟩ := hq
          have hg : gotoIn g (.inScope body :: k) = some (.code rest :: .inScope body :: k) := by simp [gotoIn, hf]
          exact ⟨e₂, a₂, w₂, hq₂, .of_steps (harr _ hg) harr₂⟩
        | none =>
          have hq : Q (.goto g) a₁ w₁ := by
            have : (match findLabel body g with
              | some rest => ∃ e a2 w2, Q e a2 w2 ∧ Arrives C.P (lone (b.at a₁ (.code rest :: .inScope body :: k)) cs w₁) b k cs e a2 w2
              | none => Q (.goto g) a₁ w₁) := hq
            rw [hf] at this; exact this
          refine ⟨.goto g, a₁, w₁, hq, fun k' hk => harr k' ?_⟩
          simp [gotoIn, hf, hk]
      | ret => exact ⟨_, a₁, w₁, hq, harr⟩
      | panic ch => exact ⟨_, a₁, w₁, hq, harr⟩
      | outgrown => exact ⟨_, a₁, w₁, hq, harr⟩
    · cases h
end
end Sd
