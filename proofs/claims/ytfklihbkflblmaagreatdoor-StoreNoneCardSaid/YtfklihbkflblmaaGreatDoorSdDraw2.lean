import Derived.Test.YtfklihbkflblmaaGreatDoorSdDraw1
set_option linter.all false
namespace Sd
open Go Go.RowKit
section
variable {C : Ctx}

/-! ### what an operation asks of the heap -/
def Plain (f : LS → Out) : Prop := ∀ σ l, f σ = some l → ∃ v, l = [(v, σ)] ∧ ∀ σ', f σ' = some [(v, σ')]
def Looks (f : LS → Out) : Prop := ∀ σ l, f σ = some l → ∃ v, l = [(v, σ)] ∧ ∀ σ', σ'.heap = σ.heap → f σ' = some [(v, σ')]
def Lays (f : LS → Out) : Prop := ∀ σ l, f σ = some l → ∃ v ob, l = [(v, σ.new ob)] ∧ ∀ σ', σ'.next = σ.next → f σ' = some [(v, σ'.new ob)]
theorem Plain.looks {f : LS → Out} (h : Plain f) : Looks f := fun σ l hl => let ⟨v, a, b⟩ := h σ l hl; ⟨v, a, fun σ' _ => b σ'⟩
theorem plain_none : Plain (fun _ => none) := fun _ _ h => by cases h
theorem plain_okv (v : Value) : Plain (okv v) := fun σ l h => by cases h; exact ⟨v, rfl, fun _ => rfl⟩
theorem plain_okm (r : Option Value) : Plain (okm r) := fun σ l h => by
  obtain ⟨v, rfl, rfl⟩ := okm_spec h
  exact ⟨v, rfl, fun _ => rfl⟩
theorem plain_pureOp (o : Oper) (env : Env) : Plain (pureOp C o env) := fun σ l h => by
  unfold pureOp at h
  split at h
  · rename_i v hp
    split at h
    · rename_i hf
      cases h
      exact ⟨v, rfl, fun σ' => by simp only [pureOp, hp, hf, okv]⟩
    · cases h
  · cases h
theorem plain_pureIf (b : Bool) (o : Oper) (env : Env) : Plain (pureIf b C o env) := fun σ l h => by
  unfold pureIf at h
  split at h
  · exact plain_pureOp o env σ l h
  · cases h
theorem plain_pick (env : Env) (c a b : Operand) : Plain (pickOp env c a b) := by
  cases hc : ev1 env c with
  | none => intro σ l h; simp [pickOp, hc] at h
  | some v =>
    cases v <;> first | (intro σ l h; simp [pickOp, hc] at h; done) | skip
    rename_i t
    cases t
    · have : pickOp env c a b = okm (ev1 env b) := by funext σ; simp only [pickOp, hc]
      rw [this]; exact plain_okm _
    · have : pickOp env c a b = okm (ev1 env a) := by funext σ; simp only [pickOp, hc]
      rw [this]; exact plain_okm _
theorem plain_nilCheck (env : Env) (x : Operand) : Plain (nilCheckOp env x) := fun σ l h => by
  unfold nilCheckOp at h
  split at h
  · rename_i ad hx; cases h; exact ⟨_, rfl, fun σ' => by simp only [nilCheckOp, hx, okv]⟩
  · rename_i f a b hx; cases h; exact ⟨_, rfl, fun σ' => by simp only [nilCheckOp, hx, okv]⟩
  · rename_i t v hx; cases h; exact ⟨_, rfl, fun σ' => by simp only [nilCheckOp, hx, okv]⟩
  · cases h
theorem plain_fieldAddr (env : Env) (s : TypeId) (x : Operand) (f : Nat) : Plain (fieldAddrOp C env s x f) := fun σ l h => by
  unfold fieldAddrOp at h
  split at h
  · rename_i b off hx
    unfold fieldAt at h
    split at h
    · rename_i fs hu
      split at h
      · rename_i fd hfd
        split at h
        · cases h
        · rename_i n hz
          cases h
          refine ⟨_, rfl, fun σ' => ?_⟩
          simp only [fieldAddrOp, hx, fieldAt, hu, hfd]
          rfl
      · cases h
    · cases h
  · cases h
theorem plain_idxPtr (i : Value) (len b off sz : Nat) : Plain (idxPtr i len b off sz) := fun σ l h => by
  unfold idxPtr at h
  split at h
  · cases h
  · rename_i sz hz
    split at h
    · rename_i k hk
      cases h
      refine ⟨_, rfl, fun σ' => ?_⟩
      unfold idxPtr
      split
      · exact absurd rfl hz
      · rw [hk]; rfl
    · cases h
theorem plain_indexAddr (env : Env) (t : TypeId) (x i : Operand) : Plain (indexAddrOp C env t x i) := fun σ l h => by
  unfold indexAddrOp at h
  split at h
  · rename_i xv hx
    split at h
    · rename_i iv hi
      unfold indexAt at h
      split at h
      · rename_i len e hu
        split at h
        · rename_i b off
          obtain ⟨v, h1, h2⟩ := plain_idxPtr _ _ _ _ _ σ l h
          exact ⟨v, h1, fun σ' => by simp only [indexAddrOp, hx, hi, indexAt, hu]; exact h2 σ'⟩
        · cases h
      · rename_i e hu
        split at h
        · rename_i b off len cap
          obtain ⟨v, h1, h2⟩ := plain_idxPtr _ _ _ _ _ σ l h
          exact ⟨v, h1, fun σ' => by simp only [indexAddrOp, hx, hi, indexAt, hu]; exact h2 σ'⟩
        · cases h
      · cases h
    · cases h
  · cases h
theorem plain_extract (env : Env) (x : Operand) (ix : Nat) : Plain (extractOp env x ix) := fun σ l h => by
  unfold extractOp at h
  split at h
  · rename_i vs hx
    obtain ⟨v, h1, h2⟩ := plain_okm _ σ l h
    exact ⟨v, h1, fun σ' => by simp only [extractOp, hx]; exact h2 σ'⟩
  · cases h
theorem plain_slice (o : Oper) (env : Env) (t : TypeId) (x : Operand) (lo hi mx : Option Operand) : Plain (sliceOp C o env t x lo hi mx) := fun σ l h => by
  unfold sliceOp at h
  split at h
  · rename_i v hx
    split at h
    · rename_i hf
      obtain ⟨v, h1, h2⟩ := plain_pureIf _ _ _ σ l h
      exact ⟨v, h1, fun σ' => by simp only [sliceOp, hx, hf]; exact h2 σ'⟩
    · rename_i hf
      obtain ⟨v, h1, h2⟩ := plain_okm _ σ l h
      exact ⟨v, h1, fun σ' => by simp only [sliceOp, hx, hf]; exact h2 σ'⟩
  · cases h
theorem plain_field (env : Env) (t : TypeId) (x : Operand) (f : Nat) : Plain (fieldOp C env t x f) := fun σ l h => by
  unfold fieldOp at h
  split at h
  · rename_i cs hx
    split at h
    · rename_i fs hu
      split at h
      · rename_i fd hfd
        obtain ⟨v, h1, h2⟩ := plain_okm _ σ l h
        exact ⟨v, h1, fun σ' => by simp only [fieldOp, hx, hu, hfd]; exact h2 σ'⟩
      · cases h
    · cases h
  · cases h
theorem plain_index (o : Oper) (env : Env) (t : TypeId) (x i : Operand) : Plain (indexOp C o env t x i) := fun σ l h => by
  unfold indexOp at h
  split at h
  · rename_i cs hx
    split at h
    · rename_i len e hu
      split at h
      · rename_i iv hi
        split at h
        · rename_i k hk
          split at h
          · cases h
          · rename_i n hz
            obtain ⟨v, h1, h2⟩ := plain_okm _ σ l h
            refine ⟨v, h1, fun σ' => ?_⟩
            simp only [indexOp, hx, hu, hi, hk]
            exact h2 σ'
        · cases h
      · cases h
    · cases h
  · rename_i s hx
    obtain ⟨v, h1, h2⟩ := plain_pureIf _ _ _ σ l h
    exact ⟨v, h1, fun σ' => by simp only [indexOp, hx]; exact h2 σ'⟩
  · cases h
theorem plain_iface (env : Env) (t : TypeId) (x : Operand) : Plain (ifaceOp C env t x) := fun σ l h => by
  unfold ifaceOp at h
  split at h
  · rename_i v hx
    split at h
    · cases h
    · rename_i d hne hu
      cases h
      refine ⟨_, rfl, fun σ' => ?_⟩
      simp only [ifaceOp, hx, hu]
      rfl
    · cases h
  · cases h
theorem plain_func (env : Env) (fn : Fn) (a b : Array Operand) : Plain (funcOp env fn a b) := fun σ l h => by
  unfold funcOp at h
  split at h
  · split at h
    · rename_i va ha
      split at h
      · rename_i vb hb
        cases h
        exact ⟨_, rfl, fun σ' => by simp only [funcOp, ha, hb, okv]⟩
      · cases h
    · cases h
  · cases h
theorem plain_build (env : Env) (t : TypeId) (ps : Array (Nat × Operand)) : Plain (buildOp C env t ps) := fun σ l h => by
  unfold buildOp at h
  split at h
  · rename_i z hz
    split at h
    · rename_i vs hvs
      split at h
      · rename_i place hp
        split at h
        · rename_i cs hf
          cases h
          exact ⟨_, rfl, fun σ' => by simp only [buildOp, hz, hvs, hp, hf, okv]⟩
        · cases h
      · cases h
    · cases h
  · cases h
theorem plain_assert (env : Env) (x : Operand) (t : TypeId) (ok : Bool) : Plain (assertOp C env x t ok) := fun σ l h => by
  unfold assertOp at h
  split at h
  · rename_i d v hx
    split at h
    · cases h
    · rename_i desc hne hu
      split at h
      · rename_i hb
        cases h
        refine ⟨_, rfl, fun σ' => ?_⟩
        simp only [assertOp, hx, hu, hb]
        rfl
      · cases h
    · cases h
  · cases h
theorem plain_binOp (o : Oper) (env : Env) (op : BinOp) (t : TypeId) (x y : Operand) : Plain (binOpOp C o env op t x y) := fun σ l h => by
  unfold binOpOp at h
  split at h
  · rename_i v hx
    split at h
    · rename_i u hy
      split at h
      · rename_i r hr
        cases h
        exact ⟨_, rfl, fun σ' => by simp only [binOpOp, hx, hy, hr, okv]⟩
      · rename_i hr
        unfold binSlow at h
        split at h
        · rename_i hf
          obtain ⟨v', h1, h2⟩ := plain_pureOp _ _ σ l h
          exact ⟨v', h1, fun σ' => by simp only [binOpOp, hx, hy, hr, binSlow, hf]; exact h2 σ'⟩
        · rename_i hf
          split at h
          · split at h
            · rename_i b hb
              cases h
              exact ⟨_, rfl, fun σ' => by simp only [binOpOp, hx, hy, hr, binSlow, hf, hb, okv]⟩
            · cases h
          · split at h
            · rename_i b hb
              cases h
              exact ⟨_, rfl, fun σ' => by simp only [binOpOp, hx, hy, hr, binSlow, hf, hb, okv]⟩
            · cases h
          · cases h
    · cases h
  · cases h
theorem plain_unOp (o : Oper) (env : Env) (x : Operand) : Plain (unOpOp C o env x) := fun σ l h => by
  unfold unOpOp at h
  split at h
  · rename_i v hx
    obtain ⟨v', h1, h2⟩ := plain_pureIf _ _ _ σ l h
    exact ⟨v', h1, fun σ' => by simp only [unOpOp, hx]; exact h2 σ'⟩
  · cases h
theorem plain_cap (c : Call) (args : List Value) : Plain (capOp C c args) := fun σ l h => by
  unfold capOp at h
  split at h
  · rename_i base n cap
    split at h
    · rename_i hlt
      split at h
      · rename_i t ht0
        split at h
        · rename_i e ht
          cases h
          exact ⟨_, rfl, fun σ' => by simp only [capOp, hlt, ht0, ht, okv]⟩
        · cases h
      · cases h
    · cases h
  · cases h
theorem plain_sliceData (args : List Value) : Plain (sliceDataOp args) := fun σ l h => by
  unfold sliceDataOp at h
  split at h
  · cases h; exact ⟨_, rfl, fun σ' => by simp only [sliceDataOp, okv]⟩
  · split at h
    · rename_i hle
      cases h
      exact ⟨_, rfl, fun σ' => by simp only [sliceDataOp, hle, okv]⟩
    · cases h
  · cases h

/-! the ones that look at the heap -/
theorem looks_of {f : LS → Option Value} (hf : ∀ σ σ' : LS, σ'.heap = σ.heap → f σ' = f σ) : Looks (fun σ => okm (f σ) σ) := fun σ l h => by
  obtain ⟨v, hv, rfl⟩ := okm_spec h
  exact ⟨v, rfl, fun σ' he => by simp only [hf σ σ' he, hv, okm]⟩
theorem heap_eq {α : Type} (f : LS → α) (hf : ∀ h n a d m b e, f ⟨h, n, a, d⟩ = f ⟨h, m, b, e⟩) : ∀ σ σ' : LS, σ'.heap = σ.heap → f σ' = f σ := by
  rintro ⟨h, n, a, d⟩ ⟨h', m, b, e⟩ he
  cases he
  exact hf _ _ _ _ _ _ _
theorem looks_load (env : Env) (t : TypeId) (a : Operand) : Looks (loadOp C env t a) := fun σ l h => by
  unfold loadOp at h
  split at h
  · rename_i p hp
    obtain ⟨v, h1, h2⟩ := looks_of (heap_eq (fun σ => loadL C σ t p) fun _ _ _ _ _ _ _ => rfl) σ l h
    exact ⟨v, h1, fun σ' he => by simp only [loadOp, hp]; exact h2 σ' he⟩
  · cases h
theorem looks_lookup (env : Env) (t : TypeId) (m k : Operand) (ok : Bool) : Looks (lookupOp C env t m k ok) := fun σ l h => by
  unfold lookupOp at h
  split at h
  · rename_i mv hm
    split at h
    · rename_i kv hk
      obtain ⟨v, h1, h2⟩ := looks_of (heap_eq (fun σ => lookupL C σ t mv kv ok) fun _ _ _ _ _ _ _ => rfl) σ l h
      exact ⟨v, h1, fun σ' he => by simp only [lookupOp, hm, hk]; exact h2 σ' he⟩
    · cases h
  · cases h
theorem looks_entry (env : Env) (x : Operand) : Looks (entryOp env x) := fun σ l h => by
  unfold entryOp at h
  split at h
  · rename_i p hp
    obtain ⟨v, h1, h2⟩ := looks_of (heap_eq (fun σ => entryL σ p) fun _ _ _ _ _ _ _ => rfl) σ l h
    exact ⟨v, h1, fun σ' he => by simp only [entryOp, hp]; exact h2 σ' he⟩
  · cases h
theorem looks_convert (o : Oper) (env : Env) (s d : TypeId) (x : Operand) : Looks (convertOp C o env s d x) := fun σ l h => by
  unfold convertOp at h
  split at h
  · rename_i p hp
    split at h
    · rename_i hf
      obtain ⟨v, h1, h2⟩ := plain_pureOp _ _ σ l h
      exact ⟨v, h1, fun σ' _ => by simp only [convertOp, hp, hf]; exact h2 σ'⟩
    · rename_i hf
      obtain ⟨v, h1, h2⟩ := looks_of (heap_eq (fun σ => convertL C σ s d p) fun _ _ _ _ _ _ _ => rfl) σ l h
      exact ⟨v, h1, fun σ' he => by simp only [convertOp, hp, hf]; exact h2 σ' he⟩
  · cases h
theorem looks_len (o : Oper) (c : Call) (args : List Value) (env : Env) : Looks (lenOp C o c args env) := fun σ l h => by
  unfold lenOp at h
  split at h
  · rename_i t ht0
    split at h
    · rename_i d ht
      unfold lenAt at h
      split at h
      · split at h
        · cases h; exact ⟨_, rfl, fun σ' _ => by simp only [lenOp, ht0, ht, lenAt, okv]⟩
        · cases h; exact ⟨_, rfl, fun σ' _ => by simp only [lenOp, ht0, ht, lenAt, okv]⟩
        · cases h
      · split at h
        · cases h; exact ⟨_, rfl, fun σ' _ => by simp only [lenOp, ht0, ht, lenAt, okv]⟩
        · cases h; exact ⟨_, rfl, fun σ' _ => by simp only [lenOp, ht0, ht, lenAt, okv]⟩
        · cases h
      · split at h
        · cases h; exact ⟨_, rfl, fun σ' _ => by simp only [lenOp, ht0, ht, lenAt, okv]⟩
        · rename_i r
          split at h
          · rename_i es clock hm
            cases h
            refine ⟨_, rfl, fun σ' he => ?_⟩
            have : mapOf σ' r = mapOf σ r := heap_eq (fun σ => mapOf σ r) (fun _ _ _ _ _ _ _ => rfl) σ σ' he
            simp only [lenOp, ht0, ht, lenAt, this, hm, okv]
          · cases h
        · cases h
      · rename_i h1 h2 h3
        obtain ⟨v, k1, k2⟩ := plain_pureIf _ _ _ σ l h
        refine ⟨v, k1, fun σ' _ => ?_⟩
        simp only [lenOp, ht0, ht]
        unfold lenAt
        split
        · exact absurd rfl h1
        · exact absurd rfl (h2 _)
        · exact absurd rfl (h3 _ _)
        · exact k2 σ'
    · cases h
  · cases h

/-! the ones that lay a block -/
theorem lays_row (e : TypeId) (cs : List Value) : Lays (fun σ => newRowL σ e cs) := fun σ l h => by
  cases h
  refine ⟨_, _, rfl, fun σ' hn => ?_⟩
  simp only [newRowL, okv, hn]
theorem lays_alloc (e : TypeId) : Lays (allocOp C e) := fun σ l h => by
  unfold allocOp at h
  split at h
  · rename_i z hz
    obtain ⟨v, ob, h1, h2⟩ := lays_row _ _ σ l h
    exact ⟨v, ob, h1, fun σ' hn => by simp only [allocOp, hz]; exact h2 σ' hn⟩
  · cases h
theorem lays_box (env : Env) (e : TypeId) (x : Operand) : Lays (boxOp env e x) := fun σ l h => by
  unfold boxOp at h
  split at h
  · rename_i z hz
    obtain ⟨v, ob, h1, h2⟩ := lays_row _ _ σ l h
    exact ⟨v, ob, h1, fun σ' hn => by simp only [boxOp, hz]; exact h2 σ' hn⟩
  · cases h
theorem lays_buildSlice (env : Env) (t : TypeId) (len : Nat) (ps : Array (Nat × Operand)) : Lays (buildSliceOp C env t len ps) := fun σ l h => by
  unfold buildSliceOp at h
  split at h
  · rename_i e hu
    split at h
    · rename_i z hz
      split at h
      · rename_i vs hvs
        split at h
        · cases h
        · rename_i n hsz
          split at h
          · rename_i hc
            split at h
            · rename_i cs hf
              cases h
              refine ⟨_, _, rfl, fun σ' hn => ?_⟩
              simp only [buildSliceOp, hu, hz, hvs, hc, hf, okv, hn]
            · cases h
          · cases h
      · cases h
    · cases h
  · cases h
theorem lays_makeSlice (env : Env) (t : TypeId) (x y : Operand) : Lays (makeSliceOp C env t x y) := fun σ l h => by
  unfold makeSliceOp at h
  split at h
  · rename_i e hu
    split at h
    · rename_i z hz
      split at h
      · rename_i k lv hl
        split at h
        · rename_i k' cv hc
          unfold makeSliceAt at h
          split at h
          · split at h
            · split at h
              · cases h
              · rename_i n hsz
                split at h
                · rename_i hcond
                  cases h
                  refine ⟨_, _, rfl, fun σ' hn => ?_⟩
                  simp only [makeSliceOp, hu, hz, hl, hc, makeSliceAt, hcond, okv, hn]
                · cases h
            · cases h
          · cases h
        · cases h
      · cases h
    · cases h
  · cases h
end
end Sd
