import Derived.Test.YtfklihbkflblmaaGreatDoorSdOps7
set_option linter.all false
namespace Sd
open Go Go.RowKit
section
variable {C : Ctx} {w0 : World} {ι : Inj} {σ : LS} {w : World} {K : Value → World → Prop}

/-! ### Maps: turning one -/
theorem turned_set (w : World) (r : Nat) (o o' : Obj) (h : w.heap[r]? = some o) : Turned w { w with heap := w.heap.setIfInBounds r o' } r o' := by
  have hlt : r < w.heap.size := (Array.getElem?_eq_some_iff.1 h).1
  exact ⟨by simp, by simp [hlt], fun k hk => by simp [Ne.symm hk], rfl, rfl, rfl⟩
theorem mapMine_spec {r : Nat} {x : List (Value × Value × Nat) × Nat} (h : mapMine σ r = some x) : nmod2 r = true ∧ σ.floor ≤ r / 2 ∧ σ.heap.get (r / 2) = some (.map x.1 x.2) := by
  unfold mapMine at h
  split at h
  · rename_i es clock hs
    cases h
    exact mine_spec hs
  · cases h
theorem mapMine_of {r : Nat} {x : List (Value × Value × Nat) × Nat} (h : mapMine σ r = some x) : mapOf σ r = some x := by
  obtain ⟨h1, _, h3⟩ := mapMine_spec h
  simp [mapOf, seen, h1, show r.div 2 = r / 2 from rfl, h3]
/-- a map that may be turned, and how it stands behind the turn -/
theorem map_put (hS : Sim C w0 ι σ w) {r : Nat} {es : List (Value × Value × Nat)} {clock : Nat} {m' : Value} (h : mapMine σ r = some (es, clock)) (hm : VR ι (.map (some r)) m') :
    ∃ r' es', m' = .map (some r') ∧ w.heap[r']? = some (.map es' clock) ∧ ER ι es es'.toList ∧ ∀ (fs : List (Value × Value × Nat)) (fs' : Array MapEntry) (c : Nat), ER ι fs fs'.toList →
      Moved C w0 ι σ w ι (σ.put (r / 2) (some (.map fs c))) { w with heap := w.heap.setIfInBounds r' (.map fs' c) } := by
  obtain ⟨hb, hf, hg⟩ := mapMine_spec h
  have e := nmod2_true hb
  cases hm with
  | atom h => simp [atomic] at h
  | map hL =>
    rename_i b L
    rw [show 2 * b / 2 = b from by omega] at hg hf ⊢
    obtain ⟨L', ro, h1, h2, h3⟩ := hS.live _ _ hg
    rw [hL] at h1; cases h1
    cases h3 with
    | map he =>
      refine ⟨_, _, rfl, h2, he, fun fs fs' c hfs => ?_⟩
      exact moved_put hS hg hL hf (by simp) _ (fun o' ho' => by cases ho'; exact .map hfs) (turned_set w L.r _ _ h2)
theorem ER.set {es : List (Value × Value × Nat)} {es' : List MapEntry} (h : ER ι es es') {k v v' : Value} {b : Nat} (hk : flat k = true) (hv : VR ι v v') : ∀ i, ER ι (es.set i (k, v, b)) (es'.set i ⟨k, v', b⟩) := by
  induction h with
  | nil => intro i; exact .nil
  | cons hk0 hv0 t ih =>
    intro i
    rcases i with _ | i
    · exact .cons hk hv t
    · exact .cons hk0 hv0 (ih i)
theorem ER.append {es fs : List (Value × Value × Nat)} {es' fs' : List MapEntry} (h : ER ι es es') (k : ER ι fs fs') : ER ι (es ++ fs) (es' ++ fs') := by
  induction h with
  | nil => exact k
  | cons hk hv _ ih => exact .cons hk hv ih
theorem ER.erase {es : List (Value × Value × Nat)} {es' : List MapEntry} (h : ER ι es es') : ∀ i, ER ι (es.eraseIdx i) (es'.eraseIdx i) := by
  induction h with
  | nil => intro i; exact .nil
  | cons hk0 hv0 t ih =>
    intro i
    rcases i with _ | i
    · exact t
    · exact .cons hk0 hv0 (ih i)
theorem modify_eq_set {α : Type} (es : Array α) (i : Nat) (f : α → α) (x : α) (h : es[i]? = some x) : (es.modify i f).toList = es.toList.set i (f x) := by
  obtain ⟨hlt, hx⟩ := Array.getElem?_eq_some_iff.1 h
  apply List.ext_getElem?
  intro j
  rw [Array.getElem?_toList, Array.getElem?_modify, List.getElem?_set]
  by_cases hij : i = j
  · subst hij; simp [hlt, hx]
  · simp [hij]
theorem eraseIf_toList {α : Type} (es : Array α) (i : Nat) (h : i < es.size) : (es.eraseIdxIfInBounds i).toList = es.toList.eraseIdx i := by
  unfold Array.eraseIdxIfInBounds
  simp [h]
theorem entry_lt {es' : Array MapEntry} {i : Nat} {e : MapEntry} (h : es'[i]? = some e) : i < es'.size := (Array.getElem?_eq_some_iff.1 h).1

theorem mapUpdate_rel (hS : Sim C w0 ι σ w) {t : TypeId} {m k v m' k' v' : Value} {σ' : LS} (h : mapUpdateL C σ t m k v = some σ') (hm : VR ι m m') (hk : VR ι k k') (hv : VR ι v v') :
    ∃ w', (Instr.mapUpdate t m' k' v').run C.P w = .ok () w' ∧ Moved C w0 ι σ w ι σ' w' := by
  unfold mapUpdateL at h
  split at h
  · rename_i kt et hu
    split at h
    · rename_i r
      split at h
      · rename_i es clock hmm
        obtain ⟨r', es', rfl, h1, he, hput⟩ := map_put hS hmm hm
        split at h
        · rename_i j k0 u b hr
          obtain ⟨rfl, hkf, hck, f', hf, h3⟩ := keyFound_rel hr hk he
          rcases h3 with ⟨h3, _⟩ | ⟨j2, k1, x, x', c, e1, rfl, e3, e4, e5⟩
          · cases h3
          · cases e1
            split at h
            · rename_i hsb
              cases h
              refine ⟨_, ?_, hput (es.set j (k', v, b)) (es'.modify j fun e => { e with key := k', val := v' }) clock ?_⟩
              · simp [Instr.mapUpdate, run_underlying hu, getObj_at h1, hck w, hf w, Instr.keyThatStays, e4, hsb, setObj_at _ h1]
              · rw [modify_eq_set _ _ _ _ e4]
                exact he.set hkf hv j
            · cases h
        · rename_i hr
          cases h
          obtain ⟨rfl, hkf, hck, f', hf, h3⟩ := keyFound_rel hr hk he
          rcases h3 with ⟨_, rfl⟩ | ⟨j2, k1, x, x', c, e1, _⟩
          · refine ⟨_, ?_, hput (es ++ [(k', v, clock)]) (es'.push { key := k', val := v', born := clock }) (clock + 1) ?_⟩
            · simp [Instr.mapUpdate, run_underlying hu, getObj_at h1, hck w, hf w, setObj_at _ h1]
            · rw [Array.toList_push]
              exact he.append (.cons hkf hv .nil)
          · cases e1
        · cases h
      · cases h
    · cases h
  · cases h
theorem mapUpdate_sound {env : Env} {a : Act} {o : Oper} {t : TypeId} {x y z : Operand} {l : List (Value × LS)} (ho : o.op = .mapUpdate t x y z ∨ o.op = .insert t x y z) (hS : Sim C w0 ι σ w) (hE : EnvR ι env a.tmps)
    (h : mapUpdateOp C env t x y z σ = some l) (hK : Goal C w0 ι σ w l K) : UponV C.P K ((execOp a.eval o).run C.P w) := by
  have hop : execOp a.eval o = (do Instr.mapUpdate t (a.eval x) (a.eval y) (a.eval z); pure Next.skip) := by rcases ho with ho | ho <;> simp only [execOp, ho]
  rw [hop]
  unfold mapUpdateOp at h
  split at h
  · rename_i m hm
    split at h
    · rename_i k hk
      split at h
      · rename_i v hv
        obtain ⟨σ', hs, rfl⟩ := oks_spec h
        obtain ⟨w', h1, h2⟩ := mapUpdate_rel hS hs (hE.eval hm) (hE.eval hk) (hE.eval hv)
        exact upon_unit h1 (hK.one h2 (.of_flat rfl))
      · cases h
    · cases h
  · cases h
theorem delete_sound {a : Act} {o : Oper} {c : Call} {m k : Value} {t : TypeId} {l : List (Value × LS)} (ho : o.op = .call c) (hc : c.callee = .builtin .delete) (ht0 : c.argTypes[0]? = some t) (hS : Sim C w0 ι σ w)
    (hargs : VL ι [m, k] (c.args.toList.map a.eval)) (h : oks (deleteL C σ t m k) (.tuple #[]) = some l) (hK : Goal C w0 ι σ w l K) : UponV C.P K ((execOp a.eval o).run C.P w) := by
  obtain ⟨σ', hs, rfl⟩ := oks_spec h
  obtain ⟨m', k', ha, hm, hk⟩ := args2 hargs
  unfold deleteL at hs
  split at hs
  · rename_i kt et hu
    split at hs
    · rename_i r
      split at hs
      · rename_i es clock hmm
        obtain ⟨r', es', rfl, h1, he, hput⟩ := map_put hS hmm hm
        have hemp : es'.isEmpty = es.isEmpty := by
          have hl : es'.size = es.length := by simpa using he.length
          cases es with
          | nil => simp [Array.isEmpty, hl]
          | cons a b => simp [Array.isEmpty, hl]
        split at hs
        · rename_i j k0 u b hr
          cases hs
          obtain ⟨rfl, _, hck, f', hf, h3⟩ := keyFound_rel hr hk he
          rcases h3 with ⟨h3, _⟩ | ⟨j2, k1, x, x', c, e1, rfl, e3, e4, e5⟩
          · cases h3
          · cases e1
            refine upon_builtin ho hc ha (fun _ => rfl) (v' := .tuple #[]) (w' := { w with heap := w.heap.setIfInBounds r' (.map (es'.eraseIdxIfInBounds j) clock) }) ?_ (hK.one (hput (es.eraseIdx j) _ clock ?_) (.of_flat rfl))
            · simp [Builtin.delete_, ht0, run_underlying hu, getObj_at h1, hemp, hck w, hf w, setObj_at _ h1]
            · rw [eraseIf_toList _ _ (entry_lt e4)]
              exact he.erase j
        · rename_i hr
          cases hs
          obtain ⟨rfl, _, hck, f', hf, h3⟩ := keyFound_rel hr hk he
          rcases h3 with ⟨_, rfl⟩ | ⟨j2, k1, x, x', c, e1, _⟩
          · refine upon_builtin ho hc ha (fun _ => rfl) (v' := .tuple #[]) (w' := { w with heap := w.heap.setIfInBounds r' (.map es' clock) }) ?_ (hK.one (hput es _ clock he) (.of_flat rfl))
            simp [Builtin.delete_, ht0, run_underlying hu, getObj_at h1, hemp, hck w, hf w, setObj_at _ h1]
          · cases e1
        · cases hs
      · cases hs
    · cases hs
  · cases hs
theorem clear_sound {a : Act} {o : Oper} {c : Call} {m : Value} {t : TypeId} {l : List (Value × LS)} (ho : o.op = .call c) (hc : c.callee = .builtin .clear) (ht0 : c.argTypes[0]? = some t) (hS : Sim C w0 ι σ w)
    (hargs : VL ι [m] (c.args.toList.map a.eval)) (h : oks (clearL C σ t m) (.tuple #[]) = some l) (hK : Goal C w0 ι σ w l K) : UponV C.P K ((execOp a.eval o).run C.P w) := by
  obtain ⟨σ', hs, rfl⟩ := oks_spec h
  obtain ⟨m', ha, hm⟩ := args1 hargs
  unfold clearL at hs
  split at hs
  · rename_i kt et hu
    split at hs
    · cases hs
      have : m' = .map none := hm.flat_eq rfl
      subst this
      exact upon_builtin ho hc ha (fun _ => rfl) (v' := .tuple #[]) (w' := w) (by simp [Builtin.clear_, ht0, run_underlying hu]) (hK.same hS (.of_flat rfl))
    · rename_i r
      split at hs
      · rename_i es clock hmm
        cases hs
        obtain ⟨r', es', rfl, h1, he, hput⟩ := map_put hS hmm hm
        refine upon_builtin ho hc ha (fun _ => rfl) (v' := .tuple #[]) (w' := { w with heap := w.heap.setIfInBounds r' (.map #[] clock) }) ?_ (hK.one (hput [] #[] clock .nil) (.of_flat rfl))
        simp [Builtin.clear_, ht0, run_underlying hu, getObj_at h1, setObj_at _ h1]
      · cases hs
    · cases hs
  · cases hs

/-! ### Ranging -/
theorem new_obj (hS : Sim C w0 ι σ w) {o : LObj} {ro : Obj} (ho : ObjR C.P (ι.add σ.next ⟨w.heap.size, 0, 0⟩) ⟨w.heap.size, 0, 0⟩ o ro) :
    Moved C w0 ι σ w (ι.add σ.next ⟨w.heap.size, 0, 0⟩) (σ.new o) (w.alloc ro) := moved_new hS 0 ho (Grown.alloc w _)
theorem range_sound {env : Env} {a : Act} {o : Oper} {t : TypeId} {x : Operand} {l : List (Value × LS)} (ho : o.op = .range t x) (hS : Sim C w0 ι σ w) (hE : EnvR ι env a.tmps)
    (h : rangeOp C env t x σ = some l) (hK : Goal C w0 ι σ w l K) : UponV C.P K ((execOp a.eval o).run C.P w) := by
  simp only [execOp, ho]
  unfold rangeOp at h
  split at h
  · rename_i v hv
    obtain ⟨u, σ', hr, rfl⟩ := one_spec h
    have hx := hE.eval hv
    generalize a.eval x = x' at hx ⊢
    have fin : ∀ o ro, (Instr.range t x').run C.P w = .ok (.pointer (some ⟨w.heap.size, 0, none⟩)) (w.alloc ro) → newPtr σ o = some (u, σ') → ObjR C.P (ι.add σ.next ⟨w.heap.size, 0, 0⟩) ⟨w.heap.size, 0, 0⟩ o ro →
        UponV C.P K ((do pure (Next.value (← Instr.range t x')) : Sem Next).run C.P w) := by
      intro o ro hrun hn hob
      simp only [newPtr] at hn
      cases hn
      exact upon_val hrun (hK.one (new_obj hS hob) (new_ptr (L := ⟨w.heap.size, 0, 0⟩) rfl))
    unfold rangeL at hr
    split at hr
    · rename_i hu
      split at hr
      · rename_i s
        have : x' = .string s := hx.flat_eq rfl
        subst this
        exact fin _ (.stringIter s 0) (by simp [Instr.range, run_underlying hu]) hr (.siter rfl)
      · cases hr
    · rename_i kt et hu
      split at hr
      · have : x' = .map none := hx.flat_eq rfl
        subst this
        exact fin _ (.mapIter none 0 #[] 0) (by simp [Instr.range, run_underlying hu]) hr (.miter0 rfl)
      · rename_i r
        split at hr
        · rename_i es clock hm
          obtain ⟨hb, hg⟩ := mapOf_spec hm
          have e := nmod2_true hb
          cases hx with
          | atom h => simp [atomic] at h
          | map hL =>
            rename_i b L
            rw [show 2 * b / 2 = b from by omega] at hg
            obtain ⟨L', ro, h1, h2, h3⟩ := hS.live _ _ hg
            rw [hL] at h1; cases h1
            cases h3 with
            | map he =>
              exact fin _ (.mapIter (some L.r) clock #[] clock) (by simp [Instr.range, run_underlying hu, getObj_at h2]) hr (.miter rfl (Inj.add_le hS.next_none _ _ hL))
        · cases hr
      · cases hr
    · cases hr
  · cases h
/-! ### next, entry -/
theorem ER.filter {es : List (Value × Value × Nat)} {es' : List MapEntry} (h : ER ι es es') (p : Nat → Bool) : ER ι (es.filter fun e => p e.2.2) (es'.filter fun e => p e.born) := by
  induction h with
  | nil => exact .nil
  | @cons k v v' b l l' hk hv t ih =>
    simp only [List.filter_cons]
    cases p b
    · simpa using ih
    · simpa using ER.cons hk hv ih
theorem ER.all {es : List (Value × Value × Nat)} {es' : List MapEntry} (h : ER ι es es') (p : Nat → Bool) : (es'.all fun e => p e.born) = (es.all fun e => p e.2.2) := by
  induction h with
  | nil => rfl
  | cons hk hv t ih => simp [ih]
theorem ER.empty {es : List (Value × Value × Nat)} {es' : List MapEntry} (h : ER ι es es') : es'.isEmpty = es.isEmpty := by cases h <;> rfl
theorem ER.mem {es : List (Value × Value × Nat)} {es' : List MapEntry} (h : ER ι es es') {e' : MapEntry} (he : e' ∈ es') : ∃ v, (e'.key, v, e'.born) ∈ es ∧ VR ι v e'.val ∧ flat e'.key = true := by
  induction h with
  | nil => cases he
  | @cons k v v' b l l' hk hv t ih =>
    rcases List.mem_cons.1 he with rfl | he
    · exact ⟨v, List.mem_cons_self, hv, hk⟩
    · obtain ⟨u, h1, h2⟩ := ih he
      exact ⟨u, List.mem_cons_of_mem _ h1, h2⟩
theorem ER.find {es : List (Value × Value × Nat)} {es' : List MapEntry} (h : ER ι es es') {stamp : Nat} {e : Value × Value × Nat} (hf : es.find? (fun e => Nat.beq e.2.2 stamp) = some e) :
    ∃ v', es'.find? (fun e => e.born == stamp) = some ⟨e.1, v', e.2.2⟩ ∧ VR ι e.2.1 v' ∧ flat e.1 = true := by
  induction h with
  | nil => cases hf
  | @cons k v v' b l l' hk hv t ih =>
    simp only [List.find?_cons] at hf ⊢
    have hb : Nat.beq b stamp = (b == stamp) := by rw [Bool.eq_iff_iff]; simp
    rw [hb] at hf
    cases hbs : (b == stamp)
    · rw [hbs] at hf; exact ih hf
    · rw [hbs] at hf; cases hf; exact ⟨v', rfl, hv, hk⟩

theorem iter_rel {b off : Nat} {p' : Value} (hp : VR ι (.pointer (some ⟨b, off, none⟩)) p') (hb : nmod2 b = true) : ∃ L, ι (b / 2) = some L ∧ p' = .pointer (some ⟨L.r, off + L.sh, none⟩) := by
  cases hp with
  | atom h => simp [atomic] at h
  | ptr ha =>
    obtain ⟨L, h1, rfl, rfl⟩ := ha.own' hb
    exact ⟨L, h1, rfl⟩

theorem choose_next {P : Program} (w : World) (n : Nat) (h : 0 < n) : ∃ j w1, j < n ∧ Same w w1 ∧ (choose (.mapNext n)).run P w = .ok j w1 := by
  by_cases hf : n ≤ 1
  · exact ⟨0, w, h, .refl w, by simp [choose, Sem.run, Question.forced, hf]⟩
  · exact ⟨_, w.drew, Nat.mod_lt _ h, .drew w, by
      simp only [choose, Sem.run, Question.forced, decide_eq_true_eq, hf, if_false, Question.cut]
      rfl⟩
theorem Same.get {w w1 : World} (h : Same w w1) (r : Nat) : w1.heap[r]? = w.heap[r]? := by rw [h.heap]
theorem next_sound {env : Env} {a : Act} {o : Oper} {x : Operand} {s : Bool} {l : List (Value × LS)} (ho : o.op = .next x s) (hS : Sim C w0 ι σ w) (hE : EnvR ι env a.tmps)
    (h : nextOp env x s σ = some l) (hK : Goal C w0 ι σ w l K) : UponV C.P K ((execOp a.eval o).run C.P w) := by
  simp only [execOp, ho]
  unfold nextOp at h
  split at h
  · rename_i v hv
    have hx := hE.eval hv
    generalize a.eval x = x' at hx ⊢
    unfold nextL at h
    split at h
    · rename_i b
      split at h
      · -- a string
        rename_i str pos hm
        obtain ⟨hb, hf, hg⟩ := mine_spec hm
        obtain ⟨L, hL, rfl⟩ := iter_rel hx hb
        obtain ⟨L', ro, h1, h2, h3⟩ := hS.live _ _ hg
        rw [hL] at h1; cases h1
        cases h3 with
        | siter hsh =>
          split at h
          · unfold nextStr at h
            split at h
            · rename_i hlt
              have hlt : pos < str.size := by simpa [Nat.blt_eq] using hlt
              split at h
              rename_i c width hd
              cases h
              refine upon_val (v' := .tuple #[.bool true, goInt pos, .int .i32 c]) (w' := { w with heap := w.heap.setIfInBounds L.r (.stringIter str (pos + width)) }) ?_
                (hK.one (moved_put hS hg hL hf (by simp) _ (fun o' ho' => by cases ho'; exact .siter hsh) (turned_set w L.r _ _ h2)) (.of_flat rfl))
              simp [Instr.next, hsh, getObj_at h2, hlt, hd, setObj_at _ h2]
            · rename_i hlt
              have hlt : ¬ pos < str.size := fun hc => by rw [← Nat.blt_eq, hlt] at hc; cases hc
              cases h
              exact upon_val (v' := .tuple #[.bool false]) (w' := w) (by simp [Instr.next, hsh, getObj_at h2, hlt]) (hK.same hS (.of_flat rfl))
          · cases h
      · -- a nil map
        rename_i since sn last hm
        obtain ⟨hb, hf, hg⟩ := mine_spec hm
        obtain ⟨L, hL, rfl⟩ := iter_rel hx hb
        obtain ⟨L', ro, h1, h2, h3⟩ := hS.live _ _ hg
        rw [hL] at h1; cases h1
        cases h3 with
        | miter0 hsh =>
          split at h
          · cases h
          · cases h
            exact upon_val (v' := .tuple #[.bool false]) (w' := w) (by simp [Instr.next, hsh, getObj_at h2]) (hK.same hS (.of_flat rfl))
      · -- a map
        rename_i m since sn last hm
        obtain ⟨hb, hf, hg⟩ := mine_spec hm
        obtain ⟨L, hL, rfl⟩ := iter_rel hx hb
        obtain ⟨L', ro, h1, h2, h3⟩ := hS.live _ _ hg
        rw [hL] at h1; cases h1
        split at h
        · cases h
        · split at h
          · rename_i es clock hmo
            obtain ⟨hmb, hmg⟩ := mapOf_spec hmo
            cases h3 with
            | miter hsh hLm =>
              rename_i m Lm
              rw [show 2 * m / 2 = m from by omega] at hmg
              obtain ⟨L', ro, k1, k2, k3⟩ := hS.live _ _ hmg
              rw [hLm] at k1; cases k1
              cases k3 with
              | map he =>
                rename_i es'
                unfold nextMap at h
                split at h
                · cases h
                · rename_i hcond
                  cases h
                  have c1 : (!(Array.mk sn).isEmpty && !es'.isEmpty && es'.all fun e => decide (e.born ≥ last)) = false := by
                    have e1 : (Array.mk sn).isEmpty = sn.isEmpty := by cases sn <;> rfl
                    have e2 : es'.isEmpty = es.isEmpty := by rw [← he.empty]; cases es' with | mk l => cases l <;> rfl
                    have e3 : (es'.all fun e => decide (e.born ≥ last)) = (es.all fun e => decide (e.2.2 ≥ last)) := by rw [← he.all fun b => decide (b ≥ last)]; simp
                    rw [e1, e2, e3]
                    simpa using hcond
                  have hl := he.filter fun b => !sn.contains b
                  have ho := hl.filter fun b => decide (b < since)
                  have hn := hl.filter fun b => decide (b ≥ since)
                  generalize hLe : (es.filter fun e => !sn.contains e.2.2) = left at hl ho hn hK
                  have hL' : (es'.filter fun e => !(Array.mk sn).contains e.born).toList = es'.toList.filter fun e => !sn.contains e.born := by simp
                  have run_eq : (Instr.next (.pointer (some ⟨L.r, 0 + L.sh, none⟩)) false o.type).run C.P w = ((do
                      match ((if ((es'.filter fun e => !(Array.mk sn).contains e.born).filter fun e => decide (e.born < since)).isEmpty then #[none] else #[]) ++ (((es'.filter fun e => !(Array.mk sn).contains e.born).filter fun e => decide (e.born < since)) ++ ((es'.filter fun e => !(Array.mk sn).contains e.born).filter fun e => decide (e.born ≥ since))).map some : Array (Option MapEntry))[← choose (.mapNext ((if ((es'.filter fun e => !(Array.mk sn).contains e.born).filter fun e => decide (e.born < since)).isEmpty then #[none] else #[]) ++ (((es'.filter fun e => !(Array.mk sn).contains e.born).filter fun e => decide (e.born < since)) ++ ((es'.filter fun e => !(Array.mk sn).contains e.born).filter fun e => decide (e.born ≥ since))).map some : Array (Option MapEntry)).size)]? with
                      | some (some e) =>
                        setObj L.r (.mapIter (some Lm.r) since ((Array.mk sn).push e.born) clock)
                        pure (.tuple #[.bool true, e.key, e.val])
                      | some none => pure (.tuple #[.bool false])
                      | none => stuck "Next: no such candidate" : Sem Value)).run C.P w := by
                    rw [hsh]
                    simp only [Instr.next, Sem.run_bind, getObj_at h2, getObj_at k2, Result.andThen_ok, c1, Nat.zero_add, Bool.false_eq_true, if_false]
                    rfl
                  generalize (es'.filter fun e => !(Array.mk sn).contains e.born) = left' at hL' run_eq
                  generalize hcand : ((if (left'.filter fun e => decide (e.born < since)).isEmpty then #[none] else #[]) ++ ((left'.filter fun e => decide (e.born < since)) ++ (left'.filter fun e => decide (e.born ≥ since))).map some : Array (Option MapEntry)) = cand at run_eq
                  have hcand := hcand.symm
                  rw [← hL'] at hl ho hn
                  have ho' : (left'.filter fun e => decide (e.born < since)).toList = left'.toList.filter fun e => decide (e.born < since) := by simp
                  have hn' : (left'.filter fun e => decide (e.born ≥ since)).toList = left'.toList.filter fun e => decide (e.born ≥ since) := by simp
                  rw [← ho'] at ho
                  rw [← hn'] at hn
                  generalize (left.filter fun e => decide (e.2.2 < since)) = old at ho hK
                  generalize (left.filter fun e => decide (e.2.2 ≥ since)) = new at hn hK
                  have hempty : (left'.filter fun e => decide (e.born < since)).isEmpty = old.isEmpty := by
                    rw [← ho.empty]
                    cases (left'.filter fun e => decide (e.born < since)) with | mk l => cases l <;> rfl
                  have hsz : cand.size = (if old.isEmpty then 1 else 0) + (old.length + new.length) := by
                    have q1 := ho.length
                    have q2 := hn.length
                    simp only [Array.length_toList] at q1 q2
                    rw [hcand, hempty]
                    cases old.isEmpty <;> simp [q1] <;> simpa using q2
                  have hpos : 0 < cand.size := by
                    rw [hsz]
                    cases old with
                    | nil => simp; omega
                    | cons x y => simp; omega
                  obtain ⟨j, w1, hj, hsame, hch⟩ := choose_next (P := C.P) w cand.size hpos
                  obtain ⟨x, hx2⟩ : ∃ x, cand[j]? = some x := ⟨cand[j], Array.getElem?_eq_getElem hj⟩
                  have hmemx : x ∈ cand.toList := List.mem_of_getElem? (i := j) (by simpa using hx2)
                  rw [hcand, hempty, Array.toList_append, Array.toList_map, Array.toList_append] at hmemx
                  have hmv := Moved.same hS hsame
                  have h2' : w1.heap[L.r]? = some (.mapIter (some Lm.r) since ⟨sn⟩ last) := by rw [hsame.get]; exact h2
                  cases x with
                  | none =>
                    have hoe : old.isEmpty = true := by
                      cases hoe : old.isEmpty
                      · rw [hoe] at hmemx; simp at hmemx
                      · rfl
                    refine upon_val (v' := .tuple #[.bool false]) (w' := w1) ?_ (hK overV σ (by simp [hoe]) _ _ _ hmv (.of_flat rfl))
                    rw [run_eq]
                    simp only [Sem.run_bind, hch, Result.andThen_ok, hx2, Sem.run_pure]
                  | some e =>
                    have hmem : e ∈ (left'.filter fun e => decide (e.born < since)).toList ++ (left'.filter fun e => decide (e.born ≥ since)).toList := by
                      rcases List.mem_append.1 hmemx with hq | hq
                      · cases hoe : old.isEmpty
                        · rw [hoe] at hq; simp at hq
                        · rw [hoe] at hq; simp at hq
                      · obtain ⟨y, hy, e1⟩ := List.mem_map.1 hq
                        cases e1; exact hy
                    obtain ⟨u, hu1, hu2, hu3⟩ := (ho.append hn).mem hmem
                    refine upon_val (v' := .tuple #[.bool true, e.key, e.val]) (w' := { w1 with heap := w1.heap.setIfInBounds L.r (.mapIter (some Lm.r) since ⟨sn ++ [e.born]⟩ clock) }) ?_
                      (hK _ (σ.put (b / 2) (some (.miter (some (2 * m)) since (sn ++ [e.born]) clock))) (List.mem_append_right _ (List.mem_map.2 ⟨_, hu1, rfl⟩)) _ _ _
                        (hmv.trans (moved_put hmv.sim hg hL hf (by simp) _ (fun o' ho' => by cases ho'; exact .miter hsh hLm) (turned_set w1 L.r _ _ h2'))) (.tuple' (.cons (.of_flat rfl) (.cons (.of_flat hu3) (.cons hu2 .nil)))))
                    rw [run_eq]
                    simp only [Sem.run_bind, hch, Result.andThen_ok, hx2, setObj_at _ h2', Sem.run_pure]
                    rw [show (Array.mk sn).push e.born = ⟨sn ++ [e.born]⟩ from by apply Array.ext'; simp]
          · cases h
      · cases h
    · cases h
  · cases h
theorem entry_sound {env : Env} {a : Act} {o : Oper} {x : Operand} {l : List (Value × LS)} (ho : o.op = .entry x) (hS : Sim C w0 ι σ w) (hE : EnvR ι env a.tmps)
    (h : entryOp env x σ = some l) (hK : Goal C w0 ι σ w l K) : UponV C.P K ((execOp a.eval o).run C.P w) := by
  simp only [execOp, ho]
  unfold entryOp at h
  split at h
  · rename_i v hv
    have hx := hE.eval hv
    generalize a.eval x = x' at hx ⊢
    obtain ⟨u, hu, rfl⟩ := okm_spec h
    unfold entryL at hu
    split at hu
    · rename_i b
      split at hu
      · rename_i m since sn stepped hs
        obtain ⟨hb, hg⟩ := seen_spec hs
        obtain ⟨L, hL, rfl⟩ := iter_rel hx hb
        obtain ⟨L', ro, h1, h2, h3⟩ := hS.live _ _ hg
        rw [hL] at h1; cases h1
        split at hu
        · rename_i stamp hlast
          split at hu
          · rename_i es clock hmo
            obtain ⟨hmb, hmg⟩ := mapOf_spec hmo
            cases h3 with
            | miter hsh hLm =>
              rename_i m Lm
              rw [show 2 * m / 2 = m from by omega] at hmg
              obtain ⟨L', ro, k1, k2, k3⟩ := hS.live _ _ hmg
              rw [hLm] at k1; cases k1
              cases k3 with
              | map he =>
                rename_i es'
                split at hu
                · rename_i hcl
                  have hcl : clock = stepped := Nat.eq_of_beq_eq_true hcl
                  subst hcl
                  split at hu
                  · rename_i e hf
                    cases hu
                    obtain ⟨v', q1, q2, q3⟩ := he.find hf
                    have q1' : es'.find? (fun e => e.born == stamp) = some ⟨e.1, v', e.2.2⟩ := by rw [← Array.find?_toList]; exact q1
                    have hbk : (Array.mk sn).back? = some stamp := by simpa [Array.back?_eq_getElem?, List.getLast?_eq_getElem?] using hlast
                    refine upon_val (v' := .tuple #[e.1, v']) (w' := w) ?_ (hK.same hS (.tuple' (.cons (.of_flat q3) (.cons q2 .nil))))
                    simp [Instr.entry, hsh, getObj_at h2, hbk, getObj_at k2, q1']
                  · cases hu
                · cases hu
          · cases hu
        · cases hu
      · cases hu
    · cases hu
  · cases h
end
end Sd
