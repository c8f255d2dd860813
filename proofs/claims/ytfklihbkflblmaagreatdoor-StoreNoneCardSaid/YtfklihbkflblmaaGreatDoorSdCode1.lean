import Derived.Test.YtfklihbkflblmaaGreatDoorSdOps13
import Derived.RangeFuncCalls
set_option linter.all false
namespace Sd
open Go Go.RowKit
section
variable {C : Ctx} {w0 : World} {ι : Inj} {σ : LS} {w : World}

/-! ## Code -/
structure Wide (F : Fence) : Prop where
  fn : ∀ f, F.fn f
  depth : F.depth.isSome = false
  calls : ∀ {n P f args w R}, Calls P f args w R → CallsIn F n P f args w R
  round : ∀ {n P l f tmps assign body w R}, RoundIn Fence.wide n P l f tmps assign body w R → RoundIn F n P l f tmps assign body w R
theorem wide_wide : Wide Fence.wide := ⟨fun _ => trivial, rfl, fun h => callsIn_wide.2 h, fun h => h⟩
theorem wide_round (l : Nat) : Wide (Fence.wide.inRound l) := ⟨fun _ => trivial, rfl, fun h => CallsIn.inRound l (callsIn_wide.2 h), fun h => h⟩

theorem oper_wpIn {F : Fence} (hF : Wide F) {n : Nat} {P : Program} {o : Oper} {a : Act} {next : Act → World → Prop} {Q : Exit → Act → World → Prop} {K : Value → World → Prop} (hd : ∀ c, o.op ≠ .defer c)
    (h : UponV P K ((execOp a.eval o).run P w)) (hk : ∀ v w', K v w' → next (a.put o.dst v) w') : o.wpIn F n P a w next Q := by
  refine ⟨fun f _ => hF.fn f, ?_⟩
  rw [Oper.semAt_eq _ _ _ hd]
  generalize (execOp a.eval o).run P w = r at h ⊢
  have hn : F.depth.isSome = true → 1 ≤ n := fun e => by rw [hF.depth] at e; cases e
  cases r with
  | halt x w' => exact h.elim
  | ok x w' =>
    cases x <;> first | exact hk _ _ h | (exact (h : False).elim) | skip
    · refine ⟨hn, (hF.calls h).mono fun e w'' he => ?_⟩
      obtain ⟨v, rfl, hv⟩ := he
      exact hk _ _ hv
    · refine ⟨hn, RoundIn.mono (hF.round (h _)) fun e w'' he => ?_⟩
      obtain ⟨v, rfl, hv⟩ := he
      exact hk _ _ hv

theorem allOf_spec {α β : Type} {f : α → Option (List β)} : ∀ {l : List α} {r : List β}, allOf f l = some r → ∀ a ∈ l, ∃ y, f a = some y ∧ ∀ z ∈ y, z ∈ r := by
  intro l
  induction l with
  | nil => intro r _ a ha; cases ha
  | cons b l ih =>
    intro r h a ha
    cases l with
    | nil =>
      simp only [allOf] at h
      rcases List.mem_cons.1 ha with rfl | ha
      · exact ⟨r, h, fun z hz => hz⟩
      · cases ha
    | cons c l =>
      simp only [allOf] at h
      split at h
      · rename_i x hx
        split at h
        · rename_i y hy
          cases h
          rcases List.mem_cons.1 ha with rfl | ha
          · exact ⟨x, hx, fun z hz => List.mem_append_left _ hz⟩
          · obtain ⟨y', h1, h2⟩ := ih (r := y) hy a ha
            exact ⟨y', h1, fun z hz => List.mem_append_right _ (h2 z hz)⟩
        · cases h
      · cases h

theorem wanted_rel {ops : Array Oper} {env : Env} {a : Act} {o : Oper} {b : Bool} (hE : EnvR ι env a.tmps) (h : wantedL ops env o = some b) : Region.wanted o (yielded ops a.tmps) = b := by
  unfold wantedL at h
  unfold Region.wanted
  split at h
  · rename_i hg; cases h; rw [hg]
  · rename_i j want hg
    rw [hg]
    split at h
    · rename_i oj hj
      split at h
      · rename_i d hd
        split at h
        · rename_i t ht
          obtain ⟨v', h1, h2⟩ := hE _ _ ht
          have : v' = .bool t := h2.flat_eq rfl
          subst this
          have hy : yielded ops a.tmps j = some t := by simp [yielded, hj, hd, h1]
          simp only [hy]
          split at h
          · cases h; cases b <;> rfl
          · cases h; cases want <;> rfl
        · cases h
        · rename_i v hne hnt hv
          cases h
          obtain ⟨v', h1, h2⟩ := hE _ _ hv
          have hb : ∀ b, v' ≠ .bool b := by
            intro b e
            subst e
            cases h2 with
            | atom h => exact hne _ rfl
            | tok h => exact hnt _ rfl
          have hy : yielded ops a.tmps j = none := by
            simp only [yielded, hj, hd, Option.bind_some, h1]
            split
            · rename_i b heq
              cases heq
              exact absurd rfl (hb _)
            · rfl
          simp only [hy]
          rfl
        · cases h
      · cases h
    · cases h

theorem defer_none {call : CallF} {o : Oper} {env : Env} {l : List (Value × LS)} (h : evOp C call o env σ = some l) : ∀ c, o.op ≠ .defer c := by
  intro c hc
  unfold evOp at h
  rw [hc] at h
  cases h

theorem deferT_none {call : CallF} {o : Oper} {env : Env} {l : List (Value × LS)} (h : evOpT C call o env σ = some l) : ∀ c, o.op ≠ .defer c := by
  intro c hc
  unfold evOpT at h
  split at h
  · rename_i l' hl; exact defer_none hl c hc
  · unfold tokOp at h
    rw [hc] at h
    cases h

/-- what is asked behind a region -/
def GoalR (C : Ctx) (w0 : World) (ι : Inj) (σ : LS) (w : World) (a : Act) (l : List (Env × LS)) (Q : Act → World → Prop) : Prop :=
  ∀ env' σ', (env', σ') ∈ l → ∀ ι' a' w', Moved C w0 ι σ w ι' σ' w' → EnvR ι' env' a'.tmps → a'.defers = a.defers → Q a' w'

theorem put_defers (a : Act) (d : Option Tmp) (v : Value) : (a.put d v).defers = a.defers := by cases d <;> rfl

theorem evOps_sound {F : Fence} (hF : Wide F) {n : Nat} {call : CallF} (hC : CallOK C w0 call) {ops : Array Oper} {Q : Exit → Act → World → Prop} : ∀ (rest : List Oper) (k : Nat), ops.toList.drop k = rest →
    ∀ {env : Env} {σ : LS} {ι : Inj} {w : World} {a : Act} {l : List (Env × LS)}, Sim C w0 ι σ w → EnvR ι env a.tmps → evOps C call ops rest env σ = some l → GoalR C w0 ι σ w a l (Q .normal) →
      wpOpsIn F n C.P ops Q (List.range' k rest.length) a w := by
  intro rest
  induction rest with
  | nil =>
    intro k hk env σ ι w a l hS hE h hQ
    simp only [evOps] at h
    cases h
    exact hQ env σ (by simp) ι a w (.refl hS) hE rfl
  | cons o rest ih =>
    intro k hk env σ ι w a l hS hE h hQ
    have hok : ops[k]? = some o := by
      have : (ops.toList.drop k)[0]? = some o := by rw [hk]; rfl
      simpa using this
    have hrest : ops.toList.drop (k + 1) = rest := by
      rw [← List.drop_drop, hk]
      rfl
    simp only [List.length_cons, List.range'_succ, wpOpsIn_cons, wpOpIn, hok]
    simp only [evOps, opsStep] at h
    split at h
    · rename_i hw
      rw [wanted_rel hE hw, if_pos rfl]
      split at h
      · rename_i l1 hev
        have hall := allOf_spec h
        refine oper_wpIn hF (deferT_none hev) (K := fun v' w' => ∃ v σ' ι', (v, σ') ∈ l1 ∧ Moved C w0 ι σ w ι' σ' w' ∧ VR ι' v v') ?_ ?_
        · exact evOpT_sound hC hS hE hev (fun v σ' hm ι' v' w' hmv hv => ⟨v, σ', ι', hm, hmv, hv⟩)
        · rintro v' w' ⟨v, σ', ι', hm, hmv, hv⟩
          obtain ⟨y, hy, hsub⟩ := hall _ hm
          refine ih (k + 1) hrest hmv.sim ((hE.mono hmv.le).put hv o.dst) hy ?_
          intro env2 σ2 hm2 ι2 a2 w2 hmv2 hE2 hd2
          exact hQ env2 σ2 (hsub _ hm2) ι2 a2 w2 (hmv.trans hmv2) hE2 (by rw [hd2, put_defers])
      · cases h
    · rename_i hw
      rw [wanted_rel hE hw, if_neg (by simp)]
      refine ⟨fun f _ => hF.fn f, ?_⟩
      refine ih (k + 1) hrest hS (hE.put (.of_flat rfl) o.dst) h ?_
      intro env2 σ2 hm2 ι2 a2 w2 hmv2 hE2 hd2
      exact hQ env2 σ2 hm2 ι2 a2 w2 hmv2 hE2 (by rw [hd2, put_defers])
    · cases h
end
end Sd
