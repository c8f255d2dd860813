import Derived.Test.YtfklihbkflblmaaGreatDoorSdOps2
set_option linter.all false
namespace Sd
open Go Go.RowKit
section
variable {C : Ctx} {w0 : World} {ι : Inj} {σ : LS} {w : World} {K : Value → World → Prop}

theorem cells_toList (v : Value) : v.cells.toList = cellsOfV v := by cases v <;> rfl
theorem VR.cells' {v v' : Value} (h : VR ι v v') : VL ι v.cells.toList v'.cells.toList := by rw [cells_toList]; exact h.cells
theorem VL.set {l l' : List Value} (h : VL ι l l') {v v' : Value} (hv : VR ι v v') : ∀ i, VL ι (l.set i v) (l'.set i v') := by
  induction h with
  | nil => intro i; exact .nil
  | cons h t ih =>
    intro i
    rcases i with _ | i
    · exact .cons hv t
    · exact .cons h (ih i)
theorem VL.drop {l l' : List Value} (h : VL ι l l') : ∀ n, VL ι (l.drop n) (l'.drop n) := by
  induction h with
  | nil => intro n; simp; exact .nil
  | cons h t ih =>
    intro n
    rcases n with _ | n
    · exact .cons h t
    · exact ih n
theorem VL.take {l l' : List Value} (h : VL ι l l') : ∀ n, VL ι (l.take n) (l'.take n) := by
  induction h with
  | nil => intro n; simp; exact .nil
  | cons h t ih =>
    intro n
    rcases n with _ | n
    · exact .nil
    · exact .cons h (ih n)

/-! ### Parts of structs and arrays -/
theorem part_rel {t : TypeId} {cs cs' : Array Value} {off : Nat} {v : Value} (h : partL C.P t cs off = some v) (hc : VL ι cs.toList cs'.toList) (w : World) :
    ∃ v', (part t cs' off).run C.P w = .ok v' w ∧ VR ι v v' := by
  unfold partL at h
  split at h
  · rename_i d hd
    split at h
    · rename_i hagg
      split at h
      · cases h
      · rename_i hz
        cases h
        refine ⟨.agg (cs'.extract off (off + szOf C.P t)), by simp [part, run_isAgg hd, hagg, run_sizeOf hz], .agg' ?_⟩
        simp only [Array.toList_extract, List.extract_eq_take_drop]
        exact (hc.drop _).take _
    · rename_i hagg
      rw [← Array.getElem?_toList] at h
      obtain ⟨v', h1, h2⟩ := hc.get h
      rw [Array.getElem?_toList] at h1
      exact ⟨v', by simp [part, run_isAgg hd, hagg, h1], h2⟩
  · cases h
theorem field_sound {env : Env} {a : Act} {o : Oper} {t : TypeId} {x : Operand} {f : Nat} {l : List (Value × LS)} (ho : o.op = .field t x f) (hS : Sim C w0 ι σ w) (hE : EnvR ι env a.tmps)
    (h : fieldOp C env t x f σ = some l) (hK : Goal C w0 ι σ w l K) : UponV C.P K ((execOp a.eval o).run C.P w) := by
  simp only [execOp, ho]
  simp only [fieldOp] at h
  split at h
  · rename_i cs hx
    have hv := hE.eval hx
    split at h
    · rename_i fs hu
      split at h
      · rename_i fd hfd
        simp only [okm] at h
        split at h
        · rename_i v hp
          cases h
          have key : ∀ cs', VL ι cs.toList cs'.toList → a.eval x = .agg cs' → UponV C.P K ((do pure (Next.value (← Instr.field t (a.eval x) f)) : Sem Next).run C.P w) := by
            intro cs' hc he
            obtain ⟨v', h1, h2⟩ := part_rel hp hc w
            exact upon_val (by simp [Instr.field, run_underlying hu, hfd, he, asAgg, h1]) (hK.same hS h2)
          generalize he : a.eval x = v' at hv
          rw [he] at key
          cases hv with
          | atom h => simp [atomic] at h
          | agg hs hp => exact key _ (.of_arr hs hp) rfl
        · cases h
      · cases h
    · cases h
  · cases h
theorem index_sound {env : Env} {a : Act} {o : Oper} {t : TypeId} {x y : Operand} {l : List (Value × LS)} (ho : o.op = .index t x y) (hS : Sim C w0 ι σ w) (hE : EnvR ι env a.tmps)
    (h : indexOp C o env t x y σ = some l) (hK : Goal C w0 ι σ w l K) : UponV C.P K ((execOp a.eval o).run C.P w) := by
  simp only [indexOp] at h
  split at h
  · rename_i cs hx
    simp only [execOp, ho]
    have hv := hE.eval hx
    split at h
    · rename_i len e hu
      split at h
      · rename_i iv hi
        split at h
        · rename_i k hk
          split at h
          · cases h
          · rename_i hz
            simp only [okm] at h
            split at h
            · rename_i v hp
              cases h
              obtain ⟨kd, rfl, hlt⟩ := idx_spec hk
              have hi' : a.eval y = .int kd (k : Int) := (hE.eval hi).flat_eq rfl
              have hb : (0 : Int) ≤ (k : Int) ∧ (k : Int) < (len : Int) := by omega
              have key : ∀ cs', VL ι cs.toList cs'.toList → a.eval x = .agg cs' → UponV C.P K ((do pure (Next.value (← Instr.index t (a.eval x) (a.eval y))) : Sem Next).run C.P w) := by
                intro cs' hc he
                obtain ⟨v', h1, h2⟩ := part_rel hp hc w
                refine upon_val (v' := v') (w' := w) ?_ (hK.same hS h2)
                simp only [Instr.index, hi', asIntOf, he, Sem.run_bind, Sem.run_pure, Result.andThen_ok, run_underlying hu, hb]
                simp only [and_self, if_true, Sem.run_bind, run_sizeOf hz, Result.andThen_ok]
                exact h1
              generalize he : a.eval x = v' at hv
              rw [he] at key
              cases hv with
              | atom h => simp [atomic] at h
              | agg hs hp => exact key _ (.of_arr hs hp) rfl
            · cases h
        · cases h
      · cases h
    · cases h
  · rename_i s hx
    simp only [pureIf] at h
    split at h
    · rename_i hf
      exact pureOp_sound hS hE hf (by simp [ho]) h hK
    · cases h
  · cases h
theorem iface_sound {env : Env} {a : Act} {o : Oper} {t : TypeId} {x : Operand} {l : List (Value × LS)} (ho : o.op = .makeInterface t x) (hS : Sim C w0 ι σ w) (hE : EnvR ι env a.tmps)
    (h : ifaceOp C env t x σ = some l) (hK : Goal C w0 ι σ w l K) : UponV C.P K ((execOp a.eval o).run C.P w) := by
  simp only [execOp, ho]
  simp only [ifaceOp] at h
  split at h
  · rename_i v hx
    split at h
    · cases h
    · rename_i d hd hu
      cases h
      refine upon_val (v' := .iface t (a.eval x)) (w' := w) ?_ (hK.same hS (.iface (hE.eval hx)))
      simp only [Instr.makeInterface, Sem.run_bind, run_underlying hu, Result.andThen_ok]
      cases d <;> first | rfl | exact (hd _ hu).elim
    · cases h
  · cases h
theorem func_sound {env : Env} {a : Act} {o : Oper} {fn : Fn} {x y : Array Operand} {l : List (Value × LS)} (ho : o.op = .makeFunc fn x y) (hS : Sim C w0 ι σ w) (hE : EnvR ι env a.tmps)
    (h : funcOp env fn x y σ = some l) (hK : Goal C w0 ι σ w l K) : UponV C.P K ((execOp a.eval o).run C.P w) := by
  simp only [execOp, ho]
  simp only [funcOp] at h
  split at h
  · rename_i f
    split at h
    · rename_i va hva
      split at h
      · rename_i vb hvb
        cases h
        refine upon_val (v' := .func (.func f) (x.map a.eval) (y.map a.eval)) (w' := w) (by simp [Instr.makeFunc]) (hK.same hS (.func' ?_ ?_))
        · simpa using hE.all hva
        · simpa using hE.all hvb
      · cases h
    · cases h
  · cases h

/-! ### Structs and arrays put together -/
inductive PR (ι : Inj) : List (Nat × Value) → List (Nat × Value) → Prop where
  | nil : PR ι [] []
  | cons {i : Nat} {v v' : Value} {l l' : List (Nat × Value)} (h : VR ι v v') (t : PR ι l l') : PR ι ((i, v) :: l) ((i, v') :: l')
theorem PR.mk (f : Operand → Value) : ∀ {parts : List (Nat × Operand)} {vs : List Value}, VL ι vs ((parts.map (·.2)).map f) → PR ι ((parts.map (·.1)).zip vs) (parts.map fun p => (p.1, f p.2)) := by
  intro parts
  induction parts with
  | nil => intro vs h; cases h; exact .nil
  | cons p parts ih =>
    intro vs h
    cases h with
    | cons h t => exact .cons h (ih t)
theorem fold_rel (off : Nat) {l l' : List Value} (h : VL ι l l') : ∀ (n : Nat) (A A' : Array Value), VL ι A.toList A'.toList →
    VL ι ((l.zipIdx n).foldl (fun cs (p : Value × Nat) => cs.setIfInBounds (off + p.2) p.1) A).toList ((l'.zipIdx n).foldl (fun cs (p : Value × Nat) => cs.setIfInBounds (off + p.2) p.1) A').toList := by
  induction h with
  | nil => intro n A A' hA; exact hA
  | cons h t ih =>
    intro n A A' hA
    simp only [List.zipIdx_cons, List.foldl_cons]
    exact ih (n + 1) _ _ (by simpa using hA.set h (off + n))
theorem fill_rel (place : Nat → Option (Nat × Nat)) {ps ps' : List (Nat × Value)} (h : PR ι ps ps') : ∀ (A A' : Array Value) (r : Array Value), VL ι A.toList A'.toList → Instr.fill place A ps = some r →
    ∃ r', Instr.fill place A' ps' = some r' ∧ VL ι r.toList r'.toList := by
  induction h with
  | nil => intro A A' r hA hr; simp only [Instr.fill] at hr ⊢; cases hr; exact ⟨A', rfl, hA⟩
  | @cons i v v' l l' hv t ih =>
    intro A A' r hA hr
    simp only [Instr.fill] at hr ⊢
    split at hr
    · cases hr
    · rename_i off size hp
      have hs : v'.cells.size = v.cells.size := by have := hv.cells'.length; simpa using this.symm
      have hA' : A'.size = A.size := by have := hA.length; simpa using this.symm
      rw [hs, hA']
      split at hr
      · cases hr
      · rename_i hc
        simp only [hc]
        refine ih _ _ r ?_ hr
        have := fold_rel off hv.cells' 0 A A' hA
        rw [← Array.foldl_toList, ← Array.foldl_toList, Array.toList_zipIdx, Array.toList_zipIdx]
        exact this
theorem placesOf_run {t : TypeId} {place : Nat → Option (Nat × Nat)} {z : Value} {w : World} (hp : placesOf C.P t = some place) (hz : (zeroValue t).run C.P w = .ok z w) {parts : Array (Nat × Value)} {r : Array Value}
    (hf : Instr.fill place z.cells parts.toList = some r) : (Instr.build t parts).run C.P w = .ok (.agg r) w := by
  unfold placesOf at hp
  split at hp
  · rename_i fs hu
    split at hp
    · rename_i places hpl
      cases hp
      simp only [Instr.build, Sem.run_bind, hz, Result.andThen_ok, run_underlying hu, pureRun_run hpl w, hf, Sem.run_pure]
    · cases hp
  · rename_i n e hu
    split at hp
    · cases hp
    · rename_i hsz
      cases hp
      simp only [Instr.build, Sem.run_bind, hz, Result.andThen_ok, run_underlying hu, run_sizeOf hsz, hf, Sem.run_pure]
  · cases hp
theorem build_sound {env : Env} {a : Act} {o : Oper} {t : TypeId} {parts : Array (Nat × Operand)} {l : List (Value × LS)} (ho : o.op = .build t parts) (hS : Sim C w0 ι σ w) (hE : EnvR ι env a.tmps)
    (h : buildOp C env t parts σ = some l) (hK : Goal C w0 ι σ w l K) : UponV C.P K ((execOp a.eval o).run C.P w) := by
  simp only [execOp, ho]
  simp only [buildOp] at h
  split at h
  · rename_i z hz
    obtain ⟨hzf, hzr⟩ := zeroOf_spec hz
    split at h
    · rename_i vs hvs
      split at h
      · rename_i place hp
        split at h
        · rename_i cs hfill
          cases h
          have hpr := PR.mk (ι := ι) a.eval (hE.all hvs)
          have hcz : VL ι (Array.mk (cellsOfV z)).toList z.cells.toList := by rw [cells_toList]; exact (VR.of_flat hzf).cells' |> fun h => by rw [cells_toList] at h; exact h
          obtain ⟨r', h1, h2⟩ := fill_rel place hpr _ z.cells _ hcz hfill
          refine upon_val (v' := .agg r') (w' := w) (placesOf_run hp (hzr w) ?_) (hK.same hS (.agg' h2))
          simpa using h1
        · cases h
      · cases h
    · cases h
  · cases h
theorem VL.of_allAtomic {l : List Value} (h : allAtomic l = true) : VL ι l l := .of_get rfl fun i v hv => ⟨v, hv, .atom (allAtomic_mem h v (List.mem_of_getElem? hv))⟩
theorem VL.of_flat {z : Value} (h : flat z = true) : VL ι (cellsOfV z) (cellsOfV z) := by have := (VR.of_flat (ι := ι) h).cells'; simpa [cells_toList] using this
theorem VL.repeat {z : List Value} (h : VL ι z z) : ∀ n, VL ι (repeatCells z n) (repeatCells z n) := by
  intro n
  induction n with
  | zero => exact .nil
  | succ n ih => exact h.append ih
theorem repeat_length (z : List Value) : ∀ n, (repeatCells z n).length = n * z.length := by
  intro n
  induction n with
  | zero => simp [repeatCells]
  | succ n ih => simp [repeatCells, ih, Nat.succ_mul]; omega
theorem repeat_get (z : List Value) (hz : 0 < z.length) : ∀ n i, i < n * z.length → (repeatCells z n)[i]? = z[i % z.length]? := by
  intro n
  induction n with
  | zero => intro i hi; simp at hi
  | succ n ih =>
    intro i hi
    rw [Nat.succ_mul] at hi
    simp only [repeatCells]
    rw [List.getElem?_append]
    split
    · rename_i h; rw [Nat.mod_eq_of_lt h]
    · rename_i h
      rw [ih _ (by omega)]
      congr 1
      rw [← Nat.mod_eq_sub_mod (by omega)]
theorem range_map_repeat (z : Array Value) (hz : 0 < z.size) (n m : Nat) (hm : m = n * z.size) : ((Array.range m).map fun i => z[i % z.size]!) = (repeatCells z.toList n).toArray := by
  subst hm
  apply Array.ext'
  apply List.ext_getElem?
  intro i
  by_cases hi : i < n * z.size
  · have h1 : i % z.size < z.size := Nat.mod_lt _ hz
    have := repeat_get z.toList (by simpa using hz) n i (by simpa using hi)
    simp only [Array.length_toList] at this
    rw [List.toList_toArray, this]
    simp [hi, h1]
  · have h2 : (repeatCells z.toList n).length ≤ i := by rw [repeat_length]; simpa using Nat.le_of_not_lt hi
    rw [List.getElem?_eq_none (by simp; omega), List.toList_toArray, List.getElem?_eq_none h2]
theorem buildSlice_sound {env : Env} {a : Act} {o : Oper} {t : TypeId} {len : Nat} {parts : Array (Nat × Operand)} {l : List (Value × LS)} (ho : o.op = .buildSlice t len parts) (hS : Sim C w0 ι σ w) (hE : EnvR ι env a.tmps)
    (h : buildSliceOp C env t len parts σ = some l) (hK : Goal C w0 ι σ w l K) : UponV C.P K ((execOp a.eval o).run C.P w) := by
  simp only [execOp, ho]
  simp only [buildSliceOp] at h
  split at h
  · rename_i e hu
    split at h
    · rename_i z hz
      obtain ⟨hzf, hzr⟩ := zeroOf_spec hz
      split at h
      · rename_i vs hvs
        split at h
        · cases h
        · rename_i hsz0
          split at h
          · rename_i hc
            split at h
            · rename_i cs hfill
              cases h
              simp only [Bool.and_eq_true] at hc
              obtain ⟨⟨hc1, hc2⟩, hc3⟩ := hc
              have hc1 := Nat.le_of_ble_eq_true hc1
              have hc2 := Nat.eq_of_beq_eq_true hc2
              have hc3 : len < UNK := by simpa [Nat.blt_eq] using hc3
              have hsz0 : szOf C.P e ≠ 0 := hsz0
              have hpr := PR.mk (ι := ι) a.eval (hE.all hvs)
              obtain ⟨r', h1, h2⟩ := fill_rel _ hpr _ (Array.mk (repeatCells (cellsOfV z) len)) _ (VL.repeat (VL.of_flat hzf) len) hfill
              have hzs : z.cells.size = szOf C.P e := by rw [← hc2, ← cells_toList]; simp
              have hrun : (Instr.buildSlice t len (parts.map fun (i, x) => (i, a.eval x))).run C.P w = .ok (.slice (some ⟨w.heap.size, 0, none⟩) len len) (w.alloc (.cells r' e)) := by
                have hz1 : ((Array.range (len * szOf C.P e)).map fun i => z.cells[i % z.cells.size]!) = (repeatCells (cellsOfV z) len).toArray := by
                  rw [← cells_toList]; exact range_map_repeat z.cells (by omega) len _ (by rw [hzs])
                have hle : ¬ len * szOf C.P e > 2 ^ 24 := by have : len * szOf C.P e ≤ 16777216 := hc1; omega
                have hl : (parts.map fun (i, x) => (i, a.eval x)).toList = parts.toList.map fun p => (p.1, a.eval p.2) := by simp
                simp only [Instr.buildSlice, Sem.run_bind, run_underlying hu, Result.andThen_ok, run_sizeOf hsz0, Sem.run_ite, if_neg hle]
                by_cases hlen : len * szOf C.P e = 0
                · have : len = 0 := by rcases Nat.mul_eq_zero.1 hlen with h | h; exact h; exact absurd h hsz0
                  subst this
                  have h1' : Instr.fill (fun i => some (i * szOf C.P e, szOf C.P e)) #[] (parts.toList.map fun p => (p.1, a.eval p.2)) = some r' := h1
                  simp [hl, newRow, show (Array.range 0) = #[] from rfl, h1']
                · simp [hlen, hzr, hz1, hl, h1, newRow]
              refine upon_val hrun ?_
              have hm := new_row (e := e) hS h2
              simp only [Array.toArray_toList] at hm
              exact hK.one hm (by simpa using VR.slice (ι := ι.add σ.next ⟨w.heap.size, 0, 0⟩) (off := 0) (l := len) (cap := len) (.own σ.next 0 _ (Inj.add_same _ _ _)) hc3)
            · cases h
          · cases h
      · cases h
    · cases h
  · cases h
end
end Sd
