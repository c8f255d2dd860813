import Derived.Test.YtfklihbkflblmaaGreatDoorSdDraw5
set_option linter.all false
namespace Sd
open Go Go.RowKit
section
variable {C : Ctx} {call : CallF} {ops : Array Oper} {p : Plan} {w0 wI : World} {ι0 : Inj} {σ0 : LS} {envF : Env} {σF : LS} {stF : List LS} {defs : List Deferred}

def Done (listed : Array Bool) (i : Nat) : Prop := listed.getD i false = true
/-- a temporary, as the real run has it -/
def Rel (ι : Inj) (tm : Array Value) (t : Tmp) (x : Value) : Prop := ∃ v', tm[t]? = some v' ∧ VR ι x v'
theorem Rel.mono {ι ι' : Inj} (hle : ι.le ι') {tm : Array Value} {t : Tmp} {x : Value} (h : Rel ι tm t x) : Rel ι' tm t x := let ⟨v', a, b⟩ := h; ⟨v', a, b.mono hle⟩

/-- the real run, ahead of the canonical one: 'π' is what the canonical one still has before it -/
structure Inv (C : Ctx) (call : CallF) (ops : Array Oper) (p : Plan) (w0 wI : World) (ι0 : Inj) (σ0 : LS) (envF : Env) (σF : LS) (stF : List LS) (defs : List Deferred)
    (listed : Array Bool) (π : List Nat) (env : Env) (σ : LS) (st : List LS) (a : Act) (w : World) (ι : Inj) : Prop where
  pre : ∃ done, p.order = done ++ π ∧ ∀ i ∈ done, Done listed i
  line : evLine C call ops π env σ st = some (envF, σF, stF)
  moved : Moved C w0 ι0 σ0 wI (ι.lt σ.next) σ w
  envs : ∀ (t : Tmp) (x : Value), (∀ j ∈ π, ∀ oj, ops[j]? = some oj → oj.dst ≠ some t) → env.get t = some x → Rel (ι.lt σ.next) a.tmps t x
  size : ∀ (t : Tmp) (x : Value), env.get t = some x → t < a.tmps.size
  early : ∀ {pre i o e τ v τ'}, At C call ops π env σ pre i o e τ v τ' → Done listed i → isM o.op = false ∧ (∀ (d : Tmp) (x : Value), o.dst = some d → (putD e o.dst v).get d = some x → Rel (ι.lt τ'.next) a.tmps d x) ∧
    ((∃ ob, τ' = τ.new ob) → ∃ ob L ro, τ' = τ.new ob ∧ ι τ.next = some L ∧ w.heap[L.r]? = some ro ∧ ObjR C.P (ι.lt τ'.next) L ob ro)
  ext : ∀ b L, σ.next ≤ b → ι b = some L → wI.heap.size ≤ L.r ∧ L.r < w.heap.size ∧ ¬ Live (ι.lt σ.next) σ L.r
  extinj : ∀ b b' L L', σ.next ≤ b → σ.next ≤ b' → ι b = some L → ι b' = some L' → L.r = L'.r → b = b'
  extat : ∀ b L, σ.next ≤ b → ι b = some L → ∃ pre i o e τ v ob, At C call ops π env σ pre i o e τ v (τ.new ob) ∧ Done listed i ∧ b = τ.next
  defers : a.defers = defs

abbrev InvD (C : Ctx) (call : CallF) (ops : Array Oper) (p : Plan) (w0 wI : World) (ι0 : Inj) (σ0 : LS) (envF : Env) (σF : LS) (stF : List LS) (defs : List Deferred) := Inv C call ops p w0 wI ι0 σ0 envF σF stF defs

section inv
variable {listed : Array Bool} {π pre rest : List Nat} {env e : Env} {σ τ τ' : LS} {st : List LS} {a : Act} {w : World} {ι : Inj} {i : Nat} {o : Oper} {v : Value}

theorem Inv.nodup (hP : PlanP ops p) (h : Inv C call ops p w0 wI ι0 σ0 envF σF stF defs listed π env σ st a w ι) : π.Nodup := by
  obtain ⟨done, h1, _⟩ := h.pre
  have := hP.nodup
  rw [h1] at this
  exact (List.nodup_append.1 this).2.1

/-- a block that lies already in the real heap is taken in -/
theorem moved_absorb {ι1 : Inj} {ob : LObj} {L : Loc} {ro : Obj} (h : Moved C w0 ι0 σ0 wI ι1 σ w) (hdom : ∀ b K, ι1 b = some K → b < σ.next) (hL1 : wI.heap.size ≤ L.r) (hL2 : L.r < w.heap.size) (hL3 : ¬ Live ι1 σ L.r) (hnd : σ0.next ≤ σ.next) (hw0 : w0.heap.size ≤ wI.heap.size) (h0 : ∀ b o, σ0.heap.get b = some o → b < σ0.next)
    (hro : w.heap[L.r]? = some ro) (hob : ObjR C.P (ι1.add σ.next L) L ob ro) : Moved C w0 ι0 σ0 wI (ι1.add σ.next L) (σ.new ob) w := by
  have hS := h.sim
  have hnone : ι1 σ.next = none := hS.next_none
  have hle : ι1.le (ι1.add σ.next L) := Inj.add_le hnone
  have key : ∀ x K, (ι1.add σ.next L) x = some K → (x = σ.next ∧ K = L) ∨ (x ≠ σ.next ∧ ι1 x = some K) := by
    intro x K hx
    simp only [Inj.add] at hx
    split at hx
    · rename_i e; exact .inl ⟨e, (Option.some.inj hx).symm⟩
    · rename_i e; exact .inr ⟨e, hx⟩
  have keyg : ∀ x ox, (σ.new ob).heap.get x = some ox → (x = σ.next ∧ ox = ob) ∨ (x ≠ σ.next ∧ σ.heap.get x = some ox) := by
    intro x ox hx
    rcases get_set _ _ _ _ _ hx with ⟨h1, h2⟩ | h2
    · exact .inl ⟨h1, (Option.some.inj h2).symm⟩
    · exact .inr h2
  have hlive : ∀ x ox K, σ.heap.get x = some ox → ι1 x = some K → K.r ≠ L.r := fun x ox K hx hK e => hL3 ⟨x, ox, K, hx, hK, e⟩
  have hset : ∀ x, x ≠ σ.next → (σ.new ob).heap.get x = σ.heap.get x := fun x hx => get_set_other _ _ _ _ hx
  refine ⟨Inj.le_trans h.le hle, ⟨hS.below, ?_, ?_, ?_, hS.ro, Nat.le_succ_of_le hS.flo⟩, Nat.le_succ_of_le h.next, h.size, h.frame, ?_, ?_, h.fl, h.dfr, ?_, ?_⟩
  · intro b K hb
    show b < σ.next + 1 ∧ _
    rcases key b K hb with ⟨rfl, rfl⟩ | ⟨_, hb⟩
    · exact ⟨by omega, by omega, hL2⟩
    · have := hS.dom b K hb; exact ⟨by omega, this.2⟩
  · intro x ox hx
    rcases keyg x ox hx with ⟨rfl, rfl⟩ | ⟨_, hx⟩
    · exact ⟨L, ro, Inj.add_same _ _ _, hro, hob⟩
    · obtain ⟨K, rx, k1, k2, k3⟩ := hS.live x ox hx
      exact ⟨K, rx, hle _ _ k1, k2, k3.mono hle⟩
  · intro x y ox oy K M hx hy hK hM he
    rcases keyg x ox hx with ⟨rfl, rfl⟩ | ⟨hxn, hx'⟩ <;> rcases keyg y oy hy with ⟨rfl, rfl⟩ | ⟨hyn, hy'⟩
    · rfl
    · rcases key _ K hK with ⟨_, rfl⟩ | ⟨hc, _⟩
      · rcases key y M hM with ⟨hc, _⟩ | ⟨_, hM⟩
        · exact absurd hc hyn
        · exact absurd he.symm (hlive y oy M hy' hM)
      · exact absurd rfl hc
    · rcases key _ M hM with ⟨_, rfl⟩ | ⟨hc, _⟩
      · rcases key x K hK with ⟨hc, _⟩ | ⟨_, hK⟩
        · exact absurd hc hxn
        · exact absurd he (hlive x ox K hx' hK)
      · exact absurd rfl hc
    · rcases key x K hK with ⟨hc, _⟩ | ⟨_, hK⟩
      · exact absurd hc hxn
      · rcases key y M hM with ⟨hc, _⟩ | ⟨_, hM⟩
        · exact absurd hc hyn
        · exact hS.inj x y ox oy K M hx' hy' hK hM he
  · rintro r ⟨x, ox, K, hx, hK, rfl⟩
    rcases keyg x ox hx with ⟨rfl, rfl⟩ | ⟨hxn, hx⟩
    · rcases key _ K hK with ⟨_, rfl⟩ | ⟨hc, _⟩
      · exact .inr hL1
      · exact absurd rfl hc
    · rcases key x K hK with ⟨hc, _⟩ | ⟨_, hK⟩
      · exact absurd hc hxn
      · exact h.fresh _ ⟨x, ox, K, hx, hK, rfl⟩
  · intro b ox K hb hox hK
    obtain ⟨h1, h2⟩ := h.floor b ox K hb hox hK
    have := h0 b ox hox
    exact ⟨by rw [hset b (by omega)]; exact h1, h2⟩
  · intro d hd
    have := h0 d _ hd
    rw [hset d (by omega)]; exact h.keepD d hd
  · intro b K hb
    rcases key b K hb with ⟨rfl, _⟩ | ⟨_, hb⟩
    · exact .inr hnd
    · exact h.news b K hb
end inv
end
end Sd
