import Derived.Test.YtfklihbkflblmaaGreatDoorSdOps6
set_option linter.all false
namespace Sd
open Go Go.RowKit
section
variable {C : Ctx} {w0 : World} {ι : Inj} {σ : LS} {w : World} {K : Value → World → Prop}

/-! ### Maps: finding a key -/
theorem equalIn_eq (kt : TypeId) (k k' : Value) : Op.equal kt k k' = Op.equalIn (9999 + 1) kt k k' := rfl
theorem sameNow_equalIn {P : Program} {kt : TypeId} {d : TypeDesc} {k k' : Value} {b : Bool} (n : Nat) (w : World) (hd : P.underlying kt = some d) (h : Instr.sameNow d k k' = some b) : (Op.equalIn (n + 1) kt k k').run P w = .ok b w := by
  unfold Op.equalIn
  simp only [Sem.run_bind, run_underlying hd, Result.andThen_ok]
  unfold Instr.sameNow at h
  split at h
  · rename_i k0 k1 a k2 c
    split at h
    · rename_i hk
      cases h
      simp [hk]
    · cases h
  · cases h; simp
  · cases h; simp
  · cases h
theorem sameNow_equal {P : Program} {kt : TypeId} {d : TypeDesc} {k k' : Value} {b b' : Bool} (hd : P.underlying kt = some d) (h : Instr.sameNow d k k' = some b) (he : pureRun P (Op.equal kt k k') = some b') : b = b' := by
  have hr := pureRun_run he default
  rw [equalIn_eq, sameNow_equalIn 9999 default hd h] at hr
  injection hr

theorem ER.at {es : List (Value × Value × Nat)} {es' : List MapEntry} (h : ER ι es es') : ∀ {i : Nat} {k v : Value} {b : Nat}, es[i]? = some (k, v, b) → ∃ v', es'[i]? = some ⟨k, v', b⟩ ∧ VR ι v v' := by
  induction h with
  | nil => intro i k v b h; simp at h
  | cons _ hv _ ih =>
    intro i k v b h
    rcases i with _ | i
    · simp at h; obtain ⟨rfl, rfl, rfl⟩ := h; exact ⟨_, by simp, hv⟩
    · simp at h; obtain ⟨v', h1, h2⟩ := ih h; exact ⟨v', by simpa using h1, h2⟩

theorem find_rel {P : Program} {kt : TypeId} {d : TypeDesc} {k : Value} (hd : P.underlying kt = some d) {es : List (Value × Value × Nat)} {es' : List MapEntry} (he : ER ι es es') :
    ∀ {i : Nat} {r : Option (Nat × Value × Value × Nat)}, findL P kt k es i = some r → ∃ r' : Option (Nat × Value), (∀ w, (Instr.findAsking kt k es' i).run P w = .ok r' w) ∧ (∀ x, Instr.findNow d k es' i = some x → x = r') ∧
      ((r = none ∧ r' = none) ∨ ∃ j k0 v v' b, r = some (i + j, k0, v, b) ∧ r' = some (i + j, v') ∧ es[j]? = some (k0, v, b) ∧ es'[j]? = some ⟨k0, v', b⟩ ∧ VR ι v v') := by
  induction he with
  | nil =>
    intro i r h
    simp [findL] at h
    subst h
    exact ⟨none, fun w => rfl, fun x hx => by simp [Instr.findNow] at hx; exact hx.symm, .inl ⟨rfl, rfl⟩⟩
  | @cons k0 v v' b l l' _ hv t ih =>
    intro i r h
    simp only [findL] at h
    split at h
    · rename_i heq
      cases h
      refine ⟨some (i, v'), fun w => ?_, fun x hx => ?_, .inr ⟨0, k0, v, v', b, rfl, rfl, by simp, by simp, hv⟩⟩
      · simp [Instr.findAsking, pureRun_run heq w]
      · simp only [Instr.findNow] at hx
        split at hx
        · cases hx; rfl
        · rename_i hs; have := sameNow_equal hd hs heq; cases this
        · cases hx
    · rename_i heq
      obtain ⟨r', h1, h2, h3⟩ := ih h
      refine ⟨r', fun w => ?_, fun x hx => ?_, ?_⟩
      · simp [Instr.findAsking, pureRun_run heq w, h1 w]
      · simp only [Instr.findNow] at hx
        split at hx
        · rename_i hs; have := sameNow_equal hd hs heq; cases this
        · exact h2 x hx
        · cases hx
      · rcases h3 with h3 | ⟨j, k1, u, u', c, e1, e2, e3, e4, e5⟩
        · exact .inl h3
        · exact .inr ⟨j + 1, k1, u, u', c, by rw [e1]; congr 2; omega, by rw [e2]; congr 2; omega, by simpa using e3, by simpa using e4, e5⟩
    · cases h
theorem run_findKey_of {P : Program} {kt : TypeId} {d : TypeDesc} {k : Value} (hd : P.underlying kt = some d) {es' : List MapEntry} {r' : Option (Nat × Value)} (h1 : ∀ w, (Instr.findAsking kt k es' 0).run P w = .ok r' w) (h2 : ∀ x, Instr.findNow d k es' 0 = some x → x = r') (w : World) :
    (Instr.findKey kt k es').run P w = .ok r' w := by
  simp only [Instr.findKey, Sem.run_bind, run_underlying hd, Result.andThen_ok]
  split
  · rename_i r hr; rw [h2 r hr]; rfl
  · exact h1 w
theorem keyFound_rel {empty : Bool} {kt : TypeId} {k k' : Value} {es : List (Value × Value × Nat)} {es' : Array MapEntry} {r : Option (Nat × Value × Value × Nat)} (h : keyFound C empty kt k es = some r) (hk : VR ι k k') (he : ER ι es es'.toList) :
    k' = k ∧ flat k = true ∧ (∀ w, (Instr.checkKey empty 10000 kt k).run C.P w = .ok () w) ∧ ∃ r' : Option (Nat × Value), (∀ w, (Instr.findKey kt k es'.toList).run C.P w = .ok r' w) ∧
      ((r = none ∧ r' = none) ∨ ∃ j k0 v v' b, r = some (j, k0, v, b) ∧ r' = some (j, v') ∧ es[j]? = some (k0, v, b) ∧ es'[j]? = some ⟨k0, v', b⟩ ∧ VR ι v v') := by
  unfold keyFound at h
  split at h
  · rename_i hf
    split at h
    · rename_i hck
      have hd : ∃ d, C.P.underlying kt = some d := by
        cases hd : C.P.underlying kt with
        | some d => exact ⟨d, rfl⟩
        | none =>
          have := pureRun_run hck default
          unfold Instr.checkKey at this
          simp [underlying, hd] at this
      obtain ⟨d, hd⟩ := hd
      obtain ⟨r', h1, h2, h3⟩ := find_rel hd he h
      refine ⟨hk.flat_eq hf, hf, fun w => pureRun_run hck w, r', run_findKey_of hd h1 h2, ?_⟩
      rcases h3 with h3 | ⟨j, k0, v, v', b, e1, e2, e3, e4, e5⟩
      · exact .inl h3
      · exact .inr ⟨j, k0, v, v', b, by simpa using e1, by simpa using e2, e3, by simpa using e4, e5⟩
    · cases h
  · cases h

theorem lookup_rel (hS : Sim C w0 ι σ w) {t : TypeId} {m k m' k' v : Value} {ok : Bool} (h : lookupL C σ t m k ok = some v) (hm : VR ι m m') (hk : VR ι k k') :
    ∃ v', (Instr.lookup t m' k' ok).run C.P w = .ok v' w ∧ VR ι v v' := by
  unfold lookupL at h
  split at h
  · rename_i kt et hu
    split at h
    · rename_i es hes
      -- the real entries
      have hreal : ∃ es', ER ι es es'.toList ∧ ∀ (f : Array MapEntry → Sem Value), ((do
          let es ← match m' with
            | .map none => pure #[]
            | .map (some r) => do
              let .map es _ ← getObj r | stuck "Lookup: map expected"
              pure es
            | _ => stuck "Lookup: map expected"
          f es : Sem Value)).run C.P w = (f es').run C.P w := by
        unfold entriesOf at hes
        split at hes
        · cases hes
          have : m' = .map none := hm.flat_eq rfl
          subst this
          exact ⟨#[], .nil, fun f => by simp⟩
        · split at hes
          · rename_i x hx
            cases hes
            obtain ⟨r', es', rfl, h1, h2⟩ := map_rel hS (es := x.1) (clock := x.2) hx hm
            exact ⟨es', h2, fun f => by simp [getObj_at h1]⟩
          · cases hes
        · cases hes
      obtain ⟨es', he, hrun⟩ := hreal
      have hemp : es'.isEmpty = es.isEmpty := by
        have hl : es'.size = es.length := by simpa using he.length
        cases es with
        | nil => simp [Array.isEmpty, hl]
        | cons a b => simp [Array.isEmpty, hl]
      have start : ∀ r, keyFound C es.isEmpty kt k es = some r → ∃ r' : Option (Nat × Value), ((r = none ∧ r' = none) ∨ ∃ j k0 v v' b, r = some (j, k0, v, b) ∧ r' = some (j, v') ∧ es[j]? = some (k0, v, b) ∧ es'[j]? = some ⟨k0, v', b⟩ ∧ VR ι v v') ∧
          (Instr.lookup t m' k' ok).run C.P w = ((do
            let (v, ok') ← match r' with
              | some (_, v) => pure (v, true)
              | none => pure (← zeroValue et, false)
            pure (if ok then .tuple #[v, .bool ok'] else v) : Sem Value)).run C.P w := by
        intro r hr
        obtain ⟨rfl, _, hck, r', hf, h3⟩ := keyFound_rel hr hk he
        refine ⟨r', h3, ?_⟩
        simp only [Instr.lookup]
        rw [Sem.run_bind, run_underlying hu, Result.andThen_ok]
        refine (hrun _).trans ?_
        rw [hemp]
        simp only [Sem.run_bind, hck w, Result.andThen_ok, hf w]
        cases r' <;> first | rfl | simp
      split at h
      · rename_i i k0 u b hr
        cases h
        obtain ⟨r', h3, h4⟩ := start _ hr
        rcases h3 with ⟨h3, _⟩ | ⟨j, k1, x, x', c, e1, rfl, _, _, e5⟩
        · cases h3
        · cases e1
          rw [h4]
          refine ⟨if ok then .tuple #[x', .bool true] else x', by simp, ?_⟩
          cases ok
          · exact e5
          · exact .tuple' (.cons e5 (.cons (.atom rfl) .nil))
      · rename_i hr
        split at h
        · rename_i z hz
          cases h
          obtain ⟨hzf, hzr⟩ := zeroOf_spec hz
          obtain ⟨r', h3, h4⟩ := start _ hr
          rcases h3 with ⟨_, rfl⟩ | ⟨j, k1, x, x', c, e1, _⟩
          · rw [h4]
            refine ⟨if ok then .tuple #[z, .bool false] else z, by simp [hzr], ?_⟩
            cases ok
            · exact .of_flat hzf
            · exact .tuple' (.cons (.of_flat hzf) (.cons (.atom rfl) .nil))
          · cases e1
        · cases h
      · cases h
    · cases h
  · cases h
theorem lookup_sound {env : Env} {a : Act} {o : Oper} {t : TypeId} {x y : Operand} {ok : Bool} {l : List (Value × LS)} (ho : o.op = .lookup t x y ok) (hS : Sim C w0 ι σ w) (hE : EnvR ι env a.tmps)
    (h : lookupOp C env t x y ok σ = some l) (hK : Goal C w0 ι σ w l K) : UponV C.P K ((execOp a.eval o).run C.P w) := by
  simp only [execOp, ho]
  unfold lookupOp at h
  split at h
  · rename_i m hm
    split at h
    · rename_i k hk
      obtain ⟨v, hv, rfl⟩ := okm_spec h
      obtain ⟨v', h1, h2⟩ := lookup_rel hS hv (hE.eval hm) (hE.eval hk)
      exact upon_val h1 (hK.same hS h2)
    · cases h
  · cases h
end
end Sd
