import Derived.Test.YtfklihbkflblmaaGreatDoorSdOps10
set_option linter.all false
namespace Sd
open Go Go.RowKit
section
variable {C : Ctx} {w0 : World} {ι : Inj} {σ : LS} {w : World} {K : Value → World → Prop}

/-! ### comparing with nil -/
theorem VR.pointer_any {p : Option Addr} {v' : Value} (h : VR ι (.pointer p) v') : ∃ p', v' = .pointer p' ∧ p'.isNone = p.isNone := by
  cases h with
  | atom h => exact ⟨_, rfl, rfl⟩
  | ptr h => exact ⟨_, rfl, rfl⟩
theorem VR.slice_nil {p : Option Addr} {l c : Nat} {v' : Value} (h : VR ι (.slice p l c) v') : ∃ p' c', v' = .slice p' l c' ∧ p'.isNone = p.isNone := by
  cases h with
  | atom h => exact ⟨_, _, rfl, rfl⟩
  | slice => exact ⟨_, _, rfl, rfl⟩
  | oslice => exact ⟨_, _, rfl, rfl⟩
  | eslice => exact ⟨_, _, rfl, rfl⟩
  | zslice => exact ⟨_, _, rfl, rfl⟩
theorem VR.map_any {p : Option Nat} {v' : Value} (h : VR ι (.map p) v') : ∃ p', v' = .map p' ∧ p'.isNone = p.isNone := by
  cases h with
  | atom h => exact ⟨_, rfl, rfl⟩
  | map h => exact ⟨_, rfl, rfl⟩
theorem VR.func_any {f : Fn} {a c : Array Value} {v' : Value} (h : VR ι (.func f a c) v') : ∃ f' a' c', v' = .func f' a' c' := by
  cases h with
  | atom h => simp [atomic] at h
  | yield h => exact ⟨_, _, _, rfl⟩
  | func => exact ⟨_, _, _, rfl⟩
theorem VR.iface_any {t : TypeId} {v v' : Value} (h : VR ι (.iface t v) v') : ∃ u', v' = .iface t u' ∧ VR ι v u' := by
  cases h with
  | atom h => simp [atomic] at h
  | iface h => exact ⟨_, rfl, h⟩
def isRef : Value → Bool
  | .pointer _ | .slice _ _ _ | .map _ | .func _ _ _ | .nilFunc | .nilIface | .iface _ _ => true
  | _ => false
theorem binOp_eql {x y : Value} (t : TypeId) (hx : isRef x = true) (hy : isRef y = true) : binOp .eql t x y = (do pure (.bool (← Op.equal t x y)) : Sem Value) := by
  cases x <;> first | (cases hx; done) | skip
  all_goals cases y <;> first | (cases hy; done) | rfl
theorem binOp_neq {x y : Value} (t : TypeId) (hx : isRef x = true) (hy : isRef y = true) : binOp .neq t x y = (do pure (.bool (!(← Op.equal t x y))) : Sem Value) := by
  cases x <;> first | (cases hx; done) | skip
  all_goals cases y <;> first | (cases hy; done) | rfl
def guardFree : Value → Value → Bool
  | .nilIface, .nilIface => false
  | .agg _, .agg _ => false
  | _, _ => true
theorem eqGuard_free {P : Program} {w : World} (op : BinOp) (t : TypeId) (x y : Operand) {a b : Value} (h : guardFree a b = true) : (eqGuard op t x y a b).run P w = .ok () w := by
  unfold eqGuard
  split
  · simp only [Bool.not_true, Bool.false_eq_true, if_false]
    split
    · simp [guardFree] at h
    · simp [guardFree] at h
    · rfl
  · simp only [Bool.not_true, Bool.false_eq_true, if_false]
    split
    · simp [guardFree] at h
    · simp [guardFree] at h
    · rfl
  · rfl
theorem VR.same_ptr {b o q : Nat} {x' y' : Value} (hx : VR ι (.pointer (some ⟨b, o, none⟩)) x') (hy : VR ι (.pointer (some ⟨b, q, none⟩)) y') :
    ∃ r o' q', x' = .pointer (some ⟨r, o', none⟩) ∧ y' = .pointer (some ⟨r, q', none⟩) ∧ (o' = q' ↔ o = q) := by
  cases hx with
  | atom h => simp [atomic] at h
  | ptr ha =>
    cases hy with
    | atom h => simp [atomic] at h
    | ptr hc =>
      rcases hb : nmod2 b with _ | _
      · obtain ⟨rfl, rfl⟩ := ha.ro' hb
        obtain ⟨rfl, rfl⟩ := hc.ro' hb
        exact ⟨_, _, _, rfl, rfl, Iff.rfl⟩
      · obtain ⟨L, h1, rfl, rfl⟩ := ha.own' hb
        obtain ⟨L', h2, rfl, rfl⟩ := hc.own' hb
        rw [h1] at h2; cases h2
        exact ⟨_, _, _, rfl, rfl, by omega⟩
theorem cmpNil_rel {P : Program} {t : TypeId} {v u v' u' : Value} {b : Bool} (h : cmpNil P t v u = some b) (hv : VR ι v v') (hu : VR ι u u') (n : Nat) :
    (∀ w, (Op.equalIn (n + 1) t v' u').run P w = .ok b w) ∧ isRef v' = true ∧ isRef u' = true ∧ guardFree v' u' = true := by
  unfold cmpNil at h
  split at h
  · rename_i e ht
    split at h
    · have : v' = .pointer none := hv.flat_eq rfl
      subst this
      split at h
      · cases h
        obtain ⟨p', rfl, h1⟩ := hu.pointer_any
        exact ⟨fun w => by simp [Op.equalIn, run_underlying ht, h1], rfl, rfl, rfl⟩
      · cases h
    · rename_i a
      split at h
      · cases h
        have : u' = .pointer none := hu.flat_eq rfl
        subst this
        obtain ⟨p', rfl, h1⟩ := hv.pointer_any
        cases p' with
        | none => cases h1
        | some p' => exact ⟨fun w => by simp [Op.equalIn, run_underlying ht], rfl, rfl, rfl⟩
      · rename_i c
        unfold samePtr at h
        split at h
        · rename_i x o
          split at h
          · rename_i y q
            split at h
            · rename_i hxy
              have hxy := Nat.eq_of_beq_eq_true hxy
              subst hxy
              split at h
              · cases h
              · rename_i hz
                have hz : szOf P e ≠ 0 := hz
                cases h
                obtain ⟨r, o', q', rfl, rfl, hiff⟩ := hv.same_ptr hu
                refine ⟨fun w => ?_, rfl, rfl, rfl⟩
                have : (decide (o' = q')) = Nat.beq o q := by rw [Bool.eq_iff_iff]; simp [hiff]
                simp [Op.equalIn, run_underlying ht, run_sizeOf hz, hz, sameAddr]
                rw [← this]
                rw [Bool.eq_iff_iff]; simp
            · cases h
          · cases h
        · cases h
      · cases h
    · cases h
  · rename_i e ht
    split at h
    · obtain ⟨p', c', rfl, h1⟩ := hv.slice_nil
      cases p' with
      | some p' => cases h1
      | none =>
      split at h
      · cases h
        obtain ⟨p', c', rfl, h1⟩ := hu.slice_nil
        exact ⟨fun w => by simp [Op.equalIn, run_underlying ht, h1], rfl, rfl, rfl⟩
      · cases h
    · obtain ⟨p', c', rfl, h1⟩ := hv.slice_nil
      cases p' with
      | none => cases h1
      | some p' =>
      split at h
      · cases h
        obtain ⟨q', c'', rfl, h2⟩ := hu.slice_nil
        cases q' with
        | some q' => cases h2
        | none => exact ⟨fun w => by simp [Op.equalIn, run_underlying ht], rfl, rfl, rfl⟩
      · cases h
    · cases h
  · rename_i kt et ht
    split at h
    · obtain ⟨p', rfl, h1⟩ := hv.map_any
      cases p' with
      | some p' => cases h1
      | none =>
      split at h
      · cases h
        obtain ⟨p', rfl, h1⟩ := hu.map_any
        exact ⟨fun w => by simp [Op.equalIn, run_underlying ht, h1], rfl, rfl, rfl⟩
      · cases h
    · obtain ⟨p', rfl, h1⟩ := hv.map_any
      cases p' with
      | none => cases h1
      | some p' =>
      split at h
      · cases h
        obtain ⟨q', rfl, h2⟩ := hu.map_any
        cases q' with
        | some q' => cases h2
        | none => exact ⟨fun w => by simp [Op.equalIn, run_underlying ht], rfl, rfl, rfl⟩
      · cases h
    · cases h
  · rename_i ht
    split at h
    · have : v' = .nilFunc := hv.flat_eq rfl
      subst this
      split at h
      · cases h
        have : u' = .nilFunc := hu.flat_eq rfl
        subst this
        exact ⟨fun w => by simp [Op.equalIn, run_underlying ht], rfl, rfl, rfl⟩
      · cases h
        obtain ⟨f', a', c', rfl⟩ := hu.func_any
        exact ⟨fun w => by simp [Op.equalIn, run_underlying ht], rfl, rfl, rfl⟩
      · cases h
    · obtain ⟨f', a', c', rfl⟩ := hv.func_any
      split at h
      · cases h
        have : u' = .nilFunc := hu.flat_eq rfl
        subst this
        exact ⟨fun w => by simp [Op.equalIn, run_underlying ht], rfl, rfl, rfl⟩
      · cases h
    · cases h
  · rename_i ht
    split at h
    · have : v' = .nilIface := hv.flat_eq rfl
      subst this
      split at h
      · cases h
        obtain ⟨x', rfl, _⟩ := hu.iface_any
        exact ⟨fun w => by simp [Op.equalIn, run_underlying ht], rfl, rfl, rfl⟩
      · cases h
    · obtain ⟨x', rfl, _⟩ := hv.iface_any
      split at h
      · cases h
        have : u' = .nilIface := hu.flat_eq rfl
        subst this
        exact ⟨fun w => by simp [Op.equalIn, run_underlying ht], rfl, rfl, rfl⟩
      · cases h
    · cases h
  · cases h
end
end Sd
