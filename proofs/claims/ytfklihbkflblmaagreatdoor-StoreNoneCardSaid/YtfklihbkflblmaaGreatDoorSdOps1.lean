import Derived.Test.YtfklihbkflblmaaGreatDoorSdSim
import Derived.Orders
import Derived.Laws.Entries
import Derived.Laws.Cells
set_option linter.all false
namespace Sd
open Go Go.RowKit

/-! ## What an operation comes to -/
def UponV (P : Program) (K : Value → World → Prop) : Result Next → Prop
  | .ok (.value v) w' => K v w'
  | .ok .skip w' => K undef w'
  | .ok (.enter f args) w' => Calls P f args w' fun e w'' => ∃ v, e = .returned v ∧ K v w''
  | .ok (.round l f tmps assign body) w' => ∀ n, RoundIn Fence.wide n P l f tmps assign body w' fun e w'' => ∃ v, e = .returned v ∧ K v w''
  | _ => False

def Goal (C : Ctx) (w0 : World) (ι : Inj) (σ : LS) (w : World) (l : List (Value × LS)) (K : Value → World → Prop) : Prop :=
  ∀ v σ', (v, σ') ∈ l → ∀ ι' v' w', Moved C w0 ι σ w ι' σ' w' → VR ι' v v' → K v' w'

section
variable {C : Ctx} {w0 : World} {ι : Inj} {σ : LS} {w : World} {K : Value → World → Prop}
theorem Goal.one {v v' : Value} {σ' : LS} {ι' : Inj} {w' : World} (h : Goal C w0 ι σ w [(v, σ')] K) (hm : Moved C w0 ι σ w ι' σ' w') (hv : VR ι' v v') : K v' w' :=
  h v σ' (by simp) _ _ _ hm hv
theorem Goal.same {v v' : Value} (h : Goal C w0 ι σ w [(v, σ)] K) (hS : Sim C w0 ι σ w) (hv : VR ι v v') : K v' w := h.one (.refl hS) hv
theorem upon_val {P : Program} {s : Sem Value} {v' : Value} {w' : World} (h : s.run P w = .ok v' w') (hk : K v' w') :
    UponV P K ((do pure (Next.value (← s)) : Sem Next).run P w) := by
  simp only [Sem.run_bind, h, Result.andThen_ok, Sem.run_pure]; exact hk
theorem upon_unit {P : Program} {s : Sem Unit} {w' : World} (h : s.run P w = .ok () w') (hk : K undef w') :
    UponV P K ((do s; pure Next.skip : Sem Next).run P w) := by
  simp only [Sem.run_bind, h, Result.andThen_ok, Sem.run_pure]; exact hk

theorem pureRun_run {α : Type} {P : Program} {s : Sem α} {a : α} (h : pureRun P s = some a) : ∀ w, s.run P w = .ok a w := by
  induction s with
  | pure b => intro w; simp [pureRun] at h; subst h; rfl
  | program k ih => intro w; simp only [pureRun] at h; simp only [Sem.run]; exact ih _ h w
  | mark m k ih => intro w; simp only [pureRun] at h; simp only [Sem.run]; exact ih h w
  | _ => simp [pureRun] at h

theorem flatOps_eq {env : Env} {a : Act} {o : Oper} (hE : EnvR ι env a.tmps) (h : flatOps env o = true) : ∀ x ∈ o.op.operands, a.eval x = ρ env x := by
  intro x hx
  have := (List.all_eq_true.1 h) x (by simpa using hx)
  split at this
  · rename_i v hv
    rw [(hE.eval hv).flat_eq this]; simp [ρ, hv]
  · cases this
theorem pureOp_sound {env : Env} {a : Act} {o : Oper} {l : List (Value × LS)} (hS : Sim C w0 ι σ w) (hE : EnvR ι env a.tmps) (hf : flatOps env o = true)
    (hs : ∀ cs b, o.op ≠ .select cs b) (h : pureOp C o env σ = some l) (hK : Goal C w0 ι σ w l K) : UponV C.P K ((execOp a.eval o).run C.P w) := by
  rw [execOp_congr o hs (flatOps_eq hE hf)]
  simp only [pureOp] at h
  split at h
  · rename_i v hp
    split at h
    · rename_i hfl
      cases h
      rw [pureRun_run hp w]
      exact hK.same hS (.of_flat hfl)
    · cases h
  · cases h

/-! ### sizes, cells -/
theorem info_of_sz {P : Program} {t : TypeId} (h : szOf P t ≠ 0) : ∃ i, P.info? t = some i ∧ i.size = szOf P t := by
  unfold szOf at *
  cases hi : P.info? t with
  | none => simp [hi] at h
  | some i => exact ⟨i, rfl, by simp⟩
theorem run_sizeOf {P : Program} {t : TypeId} (h : szOf P t ≠ 0) (w : World) : (Go.sizeOf t).run P w = .ok (szOf P t) w := by
  obtain ⟨i, hi, hs⟩ := info_of_sz h
  simp [Go.sizeOf, typeInfo, hi, hs]
theorem run_isAgg {P : Program} {t : TypeId} {d : TypeDesc} (h : P.underlying t = some d) (w : World) : (isAgg t).run P w = .ok (isAggD d) w := by
  cases d <;> simp [isAgg, run_underlying h, isAggD]

theorem AR.own' {b off r o : Nat} (h : AR ι b off r o) (hb : nmod2 b = true) : ∃ L, ι (b / 2) = some L ∧ r = L.r ∧ o = off + L.sh := by
  have e := nmod2_true hb
  cases h with
  | ro r off => omega
  | own b off L h => exact ⟨L, by rw [show 2 * b / 2 = b from by omega]; exact h, rfl, rfl⟩
theorem AR.ro' {b off r o : Nat} (h : AR ι b off r o) (hb : nmod2 b = false) : r = b / 2 ∧ o = off := by
  have e := nmod2_false hb
  cases h with
  | ro r off => exact ⟨by omega, rfl⟩
  | own b off L h => omega

theorem cell_rel (hS : Sim C w0 ι σ w) {b off r o : Nat} {c : T Value} (hr : rowOf C σ b = some c) (ha : AR ι b off r o) {k : Nat} {v : Value} (hv : c.get (off + k) = some v) :
    ∃ v', w.cell? ⟨r, o + k, none⟩ = some v' ∧ VR ι v v' := by
  unfold rowOf at hr
  split at hr
  · rename_i hb
    obtain ⟨L, hL, rfl, rfl⟩ := ha.own' hb
    have key : ∀ o', σ.heap.get (b / 2) = some o' → (∃ e n, o' = .row e n c) ∨ (∃ e n, o' = .orow e n c) → ∃ v', w.cell? ⟨L.r, off + L.sh + k, none⟩ = some v' ∧ VR ι v v' := by
      intro o' ho' hk
      obtain ⟨K, ro, h1, h2, h3⟩ := hS.live _ _ ho'
      rw [hL] at h1; cases h1
      rcases hk with ⟨e, n, rfl⟩ | ⟨e, n, rfl⟩
      · cases h3 with
        | row hs hn h =>
          obtain ⟨v', a, b'⟩ := h _ _ hv
          exact ⟨v', by simp [World.cell?, h2, hs]; exact a, b'⟩
      · cases h3 with
        | orow hn hcap hm h =>
          obtain ⟨v', a, b'⟩ := h _ _ hv
          exact ⟨v', by simp only [World.cell?, h2]; rw [show off + L.sh + k = off + k + L.sh from by omega]; simpa using a, b'⟩
    split at hr
    · rename_i e n c' hg; cases hr; exact key _ hg (.inl ⟨_, _, rfl⟩)
    · rename_i e n c' hg; cases hr; exact key _ hg (.inr ⟨_, _, rfl⟩)
    · cases hr
  · rename_i hb
    obtain ⟨rfl, rfl⟩ := ha.ro' hb
    obtain ⟨cs, e, fz, h1, h2⟩ := hS.ro _ _ hr
    obtain ⟨v', h3, h4⟩ := h2 _ _ hv
    refine ⟨v', ?_, h4 ι⟩
    have hlt : b / 2 < w0.heap.size := (Array.getElem?_eq_some_iff.1 h1).1
    have : w.heap[b / 2]? = some (.cells cs e fz) := by rw [hS.below.block _ hlt]; exact h1
    simp [World.cell?, this, h3]
theorem cells_rel (hS : Sim C w0 ι σ w) {b off r o : Nat} {c : T Value} (hr : rowOf C σ b = some c) (ha : AR ι b off r o) : ∀ (n k : Nat) (l : List Value), readCells c (off + k) n = some l →
    ∃ l', VL ι l l' ∧ ∀ j v, l'[j]? = some v → w.cell? ⟨r, o + k + j, none⟩ = some v := by
  intro n
  induction n with
  | zero => intro k l h; simp [readCells] at h; subst h; exact ⟨[], .nil, fun j v hv => by simp at hv⟩
  | succ n ih =>
    intro k l h
    simp only [readCells] at h
    split at h
    · rename_i v hv
      split at h
      · rename_i vs hvs
        cases h
        obtain ⟨v', h1, h2⟩ := cell_rel hS hr ha hv
        obtain ⟨l', h3, h4⟩ := ih (k + 1) vs hvs
        refine ⟨v' :: l', .cons h2 h3, fun j u hu => ?_⟩
        rcases j with _ | j
        · simp at hu; subst hu; exact h1
        · simp at hu; have := h4 j u hu; rwa [show o + (k + 1) + j = o + k + (j + 1) from by omega] at this
      · cases h
    · cases h
theorem add_none (r o k : Nat) : (⟨r, o, none⟩ : Addr).add k = ⟨r, o + k, none⟩ := by unfold Addr.add; split <;> simp_all
theorem run_loadCells_rel (hS : Sim C w0 ι σ w) {b off r o : Nat} {c : T Value} (hr : rowOf C σ b = some c) (ha : AR ι b off r o) {n : Nat} {l : List Value} (h : readCells c off n = some l) :
    ∃ l', VL ι l l' ∧ l'.length = n ∧ (∀ j v, l'[j]? = some v → w.cell? ((⟨r, o, none⟩ : Addr).add j) = some v) ∧ (loadCells ⟨r, o, none⟩ n).run C.P w = .ok l'.toArray w := by
  obtain ⟨l', h1, h2⟩ := cells_rel hS hr ha n 0 l h
  have hl : l'.length = n := h1.length ▸ (readCells_spec _ _ _ _ h).1
  have h3 : ∀ j v, l'[j]? = some v → w.cell? ((⟨r, o, none⟩ : Addr).add j) = some v := fun j v hv => by rw [add_none]; exact h2 j v hv
  refine ⟨l', h1, hl, h3, ?_⟩
  have := run_loadCells_list (P := C.P) w ⟨r, o, none⟩ l' h3
  rwa [hl] at this

/-- a load -/
theorem run_load_rel (hS : Sim C w0 ι σ w) {t : TypeId} {p v p' : Value} (h : loadL C σ t p = some v) (hp : VR ι p p') :
    ∃ v', (Instr.loadAt t p').run C.P w = .ok v' w ∧ VR ι v v' := by
  unfold loadL at h
  split at h
  · rename_i b off
    split at h
    · rename_i c hr
      cases hp with
      | atom h => simp [atomic] at h
      | ptr ha =>
        rename_i r o
        simp only [Instr.loadAt, Instr.sureAddr, Sem.run_bind, Sem.run_pure, Result.andThen_ok, loadVar]
        simp only [loadAt] at h
        split at h
        · rename_i d hd
          rw [run_isAgg hd]
          split at h
          · rename_i hagg
            split at h
            · cases h
            · rename_i hz
              split at h
              · rename_i l hl
                cases h
                obtain ⟨l', h1, h2, _, h4⟩ := run_loadCells_rel hS hr ha hl
                refine ⟨.agg l'.toArray, ?_, .agg' (by simpa using h1)⟩
                simp [hagg, run_sizeOf hz, h4]
              · cases h
          · rename_i hagg
            obtain ⟨v', h1, h2⟩ := cell_rel hS hr ha (k := 0) h
            exact ⟨v', by simp [hagg]; simp at h1; simp [h1], h2⟩
        · cases h
    · cases h
  · cases h

theorem load_sound {env : Env} {a : Act} {o : Oper} {t : TypeId} {x : Operand} {l : List (Value × LS)} (ho : o.op = .load t x) (hS : Sim C w0 ι σ w) (hE : EnvR ι env a.tmps)
    (h : loadOp C env t x σ = some l) (hK : Goal C w0 ι σ w l K) : UponV C.P K ((execOp a.eval o).run C.P w) := by
  simp only [execOp, ho]
  simp only [loadOp] at h
  split at h
  · rename_i p hp
    simp only [okm] at h
    split at h
    · rename_i v hv
      cases h
      obtain ⟨v', h1, h2⟩ := run_load_rel hS hv (hE.eval hp)
      exact upon_val h1 (hK.same hS h2)
    · cases h
  · cases h
theorem move_sound {env : Env} {a : Act} {o : Oper} {x : Operand} {l : List (Value × LS)} (ho : o.op = .move x ∨ o.op = .assign x) (hS : Sim C w0 ι σ w) (hE : EnvR ι env a.tmps)
    (h : moveOp env x σ = some l) (hK : Goal C w0 ι σ w l K) : UponV C.P K ((execOp a.eval o).run C.P w) := by
  have : execOp a.eval o = pure (.value (a.eval x)) := by rcases ho with ho | ho <;> simp only [execOp, ho]
  rw [this]
  simp only [moveOp, okm] at h
  split at h
  · rename_i v hv
    cases h
    exact hK.same hS (hE.eval hv)
  · cases h
theorem pick_sound {env : Env} {a : Act} {o : Oper} {c x y : Operand} {l : List (Value × LS)} (ho : o.op = .pick c x y) (hS : Sim C w0 ι σ w) (hE : EnvR ι env a.tmps)
    (h : pickOp env c x y σ = some l) (hK : Goal C w0 ι σ w l K) : UponV C.P K ((execOp a.eval o).run C.P w) := by
  simp only [execOp, ho]
  simp only [pickOp] at h
  split at h
  · rename_i t ht
    have e : a.eval c = .bool t := (hE.eval ht).flat_eq rfl
    simp only [e, asBool, Sem.run_bind, Sem.run_pure, Result.andThen_ok]
    split at h <;> (simp only [okm] at h; split at h)
    · rename_i v hv; cases h; exact hK.same hS (hE.eval hv)
    · cases h
    · rename_i v hv; cases h; exact hK.same hS (hE.eval hv)
    · cases h
  · cases h
end
end Sd
