import Derived.Test.YtfklihbkflblmaaGreatDoorSdDraw12
set_option linter.all false
namespace Sd
open Go Go.RowKit
section
variable {C : Ctx} {w0 : World} {ι : Inj} {σ : LS} {w : World} {K : Value → World → Prop}

/-! ## Functions without a body -/
def implOf : Ext → Array Value → Sem Value
  | .compare => Extern.BytealgCompare.compare
  | .indexByte => Extern.BytealgIndexByte.indexByte
  | .noEscape => Extern.AbiNoEscape.same
  | .mapsClone => Extern.MapsClone.clone
def ExtFacts (C : Ctx) : Prop := ∀ (f : FuncId) (x : Ext), C.ext f = some x → ∃ fn : Func, C.P.funcs[f]? = some fn ∧ fn.body = none ∧ (fn.name == "runtime.NumGoroutine") = false ∧ Extern.findNext fn = none ∧ Extern.find fn = some (implOf x)
theorem callFunc_ext {P : Program} {f : FuncId} {fn : Func} {e : Array Value → Sem Value} (hf : P.funcs[f]? = some fn) (hb : fn.body = none) (hn : (fn.name == "runtime.NumGoroutine") = false) (h1 : Extern.findNext fn = none) (h2 : Extern.find fn = some e) (args : Array Value) (w : World) :
    (callFunc f args).run P w = ((do pure (Next.value (← e args))) : Sem Next).run P w := by
  simp only [callFunc, Sem.run_bind, run_program, Result.andThen_ok, hf, hn, hb, h1, h2]
  simp
theorem bytesOf_run (hS : Sim C w0 ι σ w) {x x' : Value} {s : ByteArray} (h : sliceBytes C σ x = some s) (hx : VR ι x x') : (Extern.Bytes.bytesOf x').run C.P w = .ok s w := by
  have cells : ∀ (ns : List Int) (a : Addr) (acc : ByteArray), (∀ j v, (ns.map (Value.int .u8))[j]? = some v → w.cell? (a.add j) = some v) → (Extern.Bytes.loadBytes a ns.length acc).run C.P w = .ok ⟨acc.data ++ (ns.map fun n => UInt8.ofNat n.toNat).toArray⟩ w := by
    intro ns
    induction ns with
    | nil => intro a acc _; simp [Extern.Bytes.loadBytes]
    | cons x l ih =>
      intro a acc h
      have h0 : w.cell? a = some (.int .u8 x) := by
        have := h 0 (.int .u8 x) rfl
        simpa [Addr.add] using this
      have ih := ih (a.add 1) (acc.push (UInt8.ofNat x.toNat)) (fun j y hy => by
        have := h (j + 1) y (by simpa using hy)
        have e : (a.add 1).add j = a.add (j + 1) := by
          unfold Addr.add
          by_cases hj : j = 0
          · subst hj; simp
          · simp [hj]; omega
        rw [e]; exact this)
      simp only [List.length_cons, Extern.Bytes.loadBytes, Sem.run_bind, run_load, h0, Result.andThen]
      rw [show x.toNat.toUInt8 = UInt8.ofNat x.toNat from rfl, ih]
      congr 1
      apply ByteArray.ext
      simp [ByteArray.push]
  unfold sliceBytes at h
  split at h
  · cases h
    cases hx with
    | atom h => rfl
  · rename_i b off len cap
    have zero : ∀ r o cap', len = 0 → (Extern.Bytes.bytesOf (.slice (some ⟨r, o, none⟩) 0 cap')).run C.P w = .ok s w := by
      intro r o cap' hl
      subst hl
      cases h
      rfl
    have key : ∀ r o cap', AR ι b off r o → (Extern.Bytes.bytesOf (.slice (some ⟨r, o, none⟩) len cap')).run C.P w = .ok s w := by
      intro r o cap' ha
      by_cases h0 : len = 0
      · rw [h0]; exact zero r o cap' h0
      · split at h
        · exact absurd rfl h0
        · split at h
          · rename_i c hc
            split at h
            · rename_i l hl
              split at h
              · rename_i s' hs
                cases h
                obtain ⟨l', e1, e2, e3, e4⟩ := run_loadCells_rel hS hc ha hl
                obtain ⟨ns, rfl, rfl⟩ := bytesL_atoms hs
                rw [e1.ints_eq] at e2 e3
                have := cells ns ⟨r, o, none⟩ .empty e3
                simp only [List.length_map] at e2
                rw [e2] at this
                simp only [Extern.Bytes.bytesOf]
                rw [this]
                simp [ByteArray.empty, ByteArray.emptyWithCapacity]
                rfl
              · cases h
            · cases h
          · cases h
    cases hx with
    | atom h => simp [atomic] at h
    | slice ha hc => exact key _ _ _ ha
    | oslice hL hc => exact key _ _ _ (.own _ _ _ hL)
    | eslice hL => exact zero _ _ _ rfl
    | zslice hL => exact zero _ _ _ rfl
  · cases h
theorem compare_run {P : Program} {a b : Value} {s t : ByteArray} (ha : (Extern.Bytes.bytesOf a).run P w = .ok s w) (hb : (Extern.Bytes.bytesOf b).run P w = .ok t w) : (implOf .compare #[a, b]).run P w = .ok (goInt (Extern.BytealgCompare.cmp s t)) w := by
  show Sem.run P (Extern.Bytes.bytesOf a >>= fun _ => Extern.Bytes.bytesOf b >>= _) w = _
  simp [ha, hb]
theorem ext_sound (hX : ExtFacts C) : ExtOK C w0 := by
  intro ι σ w f x args args' l K hx hS ha h hK
  obtain ⟨fn, hf, hb, hn, h1, h2⟩ := hX f x hx
  rw [callFunc_ext hf hb hn h1 h2]
  obtain ⟨v, σ', hr, rfl⟩ := one_spec h
  unfold extL at hr
  split at hr
  · rename_i a b
    cases ha with
    | cons hA t => cases t with
      | cons hB t => cases t with
        | nil =>
          split at hr
          · rename_i s hs
            split at hr
            · rename_i t ht
              cases hr
              refine upon_val (v' := .int .i64 (Extern.BytealgCompare.cmp s t)) (w' := w) ?_ (hK.same hS (.of_flat rfl))
              simp [compare_run (bytesOf_run hS hs hA) (bytesOf_run hS ht hB), goInt]
            · cases hr
          · cases hr
  · rename_i s n
    cases ha with
    | cons hA t => cases t with
      | cons hB t => cases t with
        | nil =>
          have e1 := hA.flat_eq rfl
          have e2 := hB.flat_eq rfl
          subst e1 e2
          cases hr
          refine upon_val (v' := _) (w' := w) ?_ (hK.same hS (.of_flat rfl))
          show Sem.run C.P (Extern.Bytes.bytesOf (.string s) >>= fun _ => Extern.Bytes.asByte (.int .u8 n) >>= _) w = _
          simp only [Extern.Bytes.bytesOf, Extern.Bytes.asByte, Sem.run_bind, Sem.run_pure, Result.andThen_ok, goInt]
          rw [show n.toNat.toUInt8 = UInt8.ofNat n.toNat from rfl]
          cases (List.range s.size).find? fun i => s[i]! == UInt8.ofNat n.toNat <;> rfl
  · cases ha with
    | cons hA t => cases t with
      | nil =>
        cases hr
        exact upon_val (w' := w) rfl (hK.same hS hA)
  · rename_i t r
    cases ha with
    | cons hA t' => cases t' with
      | nil =>
        split at hr
        · rename_i es clock hm
          cases hr
          obtain ⟨u', rfl, hu⟩ := hA.iface_any
          obtain ⟨r', es', rfl, k1, k2⟩ := map_rel hS hm hu
          refine upon_val (v' := .iface t (.map (some w.heap.size))) (w' := w.alloc (.map es' clock)) ?_ (hK.one (new_obj hS (.map (k2.mono (Inj.add_le hS.next_none)))) (.iface (.map (L := ⟨w.heap.size, 0, 0⟩) (Inj.add_same _ _ _))))
          show Sem.run C.P (getObj _ >>= _) w = _
          simp [getObj_at k1]
        · cases hr
  · cases hr
end
end Sd
