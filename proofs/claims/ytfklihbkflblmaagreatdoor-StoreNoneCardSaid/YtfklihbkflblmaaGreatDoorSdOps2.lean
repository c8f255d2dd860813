import Derived.Test.YtfklihbkflblmaaGreatDoorSdOps1
set_option linter.all false
namespace Sd
open Go Go.RowKit
section
variable {C : Ctx} {w0 : World} {ι : Inj} {σ : LS} {w : World} {K : Value → World → Prop}

/-! ### Stores -/
theorem allOne_mem : ∀ {l : List Value}, allOne l = true → ∀ v ∈ l, oneC v = true := by
  intro l
  induction l with
  | nil => intro _ v hv; cases hv
  | cons a l ih =>
    intro h v hv
    simp only [allOne] at h
    split at h
    · rename_i ha
      rcases List.mem_cons.1 hv with rfl | hv
      · exact ha
      · exact ih h v hv
    · cases h
theorem VL.one {l l' : List Value} (h : VL ι l l') (ho : allOne l = true) : ∀ v ∈ l', v.oneCell' = true := by
  induction h with
  | nil => intro v hv; cases hv
  | @cons x x' m m' h t ih =>
    intro v hv
    have h1 := allOne_mem ho _ (List.mem_cons_self)
    have h2 : allOne m = true := by simp only [allOne, h1] at ho; exact ho
    rcases List.mem_cons.1 hv with rfl | hv
    · rw [h.oneCell]; exact h1
    · exact ih h2 v hv

theorem splice_get (cs : List Value) (o : Nat) (vs : List Value) (hl : o + vs.length ≤ cs.length) (i : Nat) :
    (cs.take o ++ vs ++ cs.drop (o + vs.length))[i]? = if i < o then cs[i]? else if i < o + vs.length then vs[i - o]? else cs[i]? := by
  have ht : (cs.take o).length = o := by simp; omega
  rw [List.append_assoc, List.getElem?_append]
  rw [ht]
  split
  · rename_i h; rw [List.getElem?_take]; simp [h]
  · rename_i h
    rw [List.getElem?_append]
    split
    · rename_i h2; rw [if_pos (by omega)]
    · rename_i h2; rw [if_neg (by omega), List.getElem?_drop]; congr 1; omega
theorem splice_size (cs : List Value) (o : Nat) (vs : List Value) (hl : o + vs.length ≤ cs.length) : (cs.take o ++ vs ++ cs.drop (o + vs.length)).length = cs.length := by
  simp; omega

theorem turned_setRow (w : World) (g : Nat) (old cs : Array Value) (e : TypeId) (hg : w.heap[g]? = some (.cells old e (0, 0))) : Turned w (w.setRow g cs) g (.cells cs e (0, 0)) :=
  ⟨by simp, setRow_heap w g old cs e _ hg, fun k hk => setRow_other w g k cs hk, rfl, rfl, rfl⟩

theorem mine_spec {b : Nat} {o : LObj} (h : mine σ b = some o) : nmod2 b = true ∧ σ.floor ≤ b / 2 ∧ σ.heap.get (b / 2) = some o := by
  unfold mine at h
  split at h
  · rename_i hb
    split at h
    · rename_i hf; exact ⟨hb, Nat.le_of_ble_eq_true hf, h⟩
    · cases h
  · cases h
theorem seen_spec {b : Nat} {o : LObj} (h : seen σ b = some o) : nmod2 b = true ∧ σ.heap.get (b / 2) = some o := by
  unfold seen at h
  split at h
  · rename_i hb; exact ⟨hb, h⟩
  · cases h

/-- cells written into a private row -/
theorem write_rel (hS : Sim C w0 ι σ w) {b off r o : Nat} {vs vs' : List Value} {σ' : LS} (h : writeL σ b off vs = some σ') (ha : AR ι b off r o) (hv : VL ι vs vs') (h1 : ∀ v ∈ vs', v.oneCell' = true) :
    ∃ w', (storeCells ⟨r, o, none⟩ vs').run C.P w = .ok () w' ∧ Moved C w0 ι σ w ι σ' w' := by
  unfold writeL at h
  split at h
  · rename_i e n c hm
    obtain ⟨hb, hf, hg⟩ := mine_spec hm
    obtain ⟨L, hL, rfl, rfl⟩ := ha.own' hb
    split at h
    · rename_i hle
      have hle := Nat.le_of_ble_eq_true hle
      cases h
      obtain ⟨L', ro, e1, e2, e3⟩ := hS.live _ _ hg
      rw [hL] at e1; cases e1
      cases e3 with
      | row hs hn hc =>
        rename_i cs
        have hlen : off + vs'.length ≤ cs.toList.length := by rw [← hv.length]; simpa [hn] using hle
        have hst := run_storeCells_at C.P L.r (off + L.sh) e vs' 0 cs w e2 (by simpa [hs] using hlen) h1
        refine ⟨_, hst, moved_put hS hg hL hf (by simp) _ (fun o' ho' => ?_) (turned_setRow w L.r cs _ e e2)⟩
        cases ho'
        rw [Nat.add_zero, hs, Nat.add_zero]
        refine .row hs (by simpa [hn] using splice_size cs.toList off vs' hlen) fun i u hu => ?_
        have hsp := splice_get cs.toList off vs' hlen i
        rcases get_writeCells _ _ _ _ _ hu with ⟨k, rfl, hk⟩ | ⟨hi, hk⟩
        · obtain ⟨u', h3, h4⟩ := hv.get hk
          have hkl : k < vs'.length := (List.getElem?_eq_some_iff.1 h3).1
          refine ⟨u', ?_, h4⟩
          rw [if_neg (by omega), if_pos (by omega), show off + k - off = k from by omega] at hsp
          rw [List.getElem?_toArray, hsp]; exact h3
        · obtain ⟨u', h3, h4⟩ := hc _ _ hk
          refine ⟨u', ?_, h4⟩
          have : (cs.toList.take off ++ vs' ++ cs.toList.drop (off + vs'.length))[i]? = cs.toList[i]? := by
            rw [hsp]; rw [hv.length] at hi
            split
            · rfl
            · rw [if_neg (by omega)]
          simp only [List.getElem?_toArray] at this ⊢
          rw [this]; simpa using h3
    · cases h
  · rename_i e n c hm
    obtain ⟨hb, hf, hg⟩ := mine_spec hm
    obtain ⟨L, hL, rfl, rfl⟩ := ha.own' hb
    split at h
    · rename_i hle
      have hle := Nat.le_of_ble_eq_true hle
      cases h
      obtain ⟨L', ro, e1, e2, e3⟩ := hS.live _ _ hg
      rw [hL] at e1; cases e1
      cases e3 with
      | orow hn hcap hmx hc =>
        rename_i cs
        have hlen : (off + L.sh) + vs'.length ≤ cs.toList.length := by
          have : off + vs.length ≤ n := hle
          rw [← hv.length]; simp; omega
        have hst := run_storeCells_at C.P L.r (off + L.sh) e vs' 0 cs w e2 (by simpa using hlen) h1
        refine ⟨_, hst, moved_put hS hg hL hf (by simp) _ (fun o' ho' => ?_) (turned_setRow w L.r cs _ e e2)⟩
        cases ho'
        rw [Nat.add_zero]
        have hsz := splice_size cs.toList (off + L.sh) vs' hlen
        refine .orow (by simp only [List.size_toArray, hsz]; simpa using hn) (by simp only [List.size_toArray, hsz]; simpa using hcap) hmx fun i u hu => ?_
        have hsp := splice_get cs.toList (off + L.sh) vs' hlen (i + L.sh)
        rcases get_writeCells _ _ _ _ _ hu with ⟨k, rfl, hk⟩ | ⟨hi, hk⟩
        · obtain ⟨u', h3, h4⟩ := hv.get hk
          have hkl : k < vs'.length := (List.getElem?_eq_some_iff.1 h3).1
          refine ⟨u', ?_, h4⟩
          rw [if_neg (by omega), if_pos (by omega), show off + k + L.sh - (off + L.sh) = k from by omega] at hsp
          rw [List.getElem?_toArray, hsp]; exact h3
        · obtain ⟨u', h3, h4⟩ := hc _ _ hk
          refine ⟨u', ?_, h4⟩
          have : (cs.toList.take (off + L.sh) ++ vs' ++ cs.toList.drop (off + L.sh + vs'.length))[i + L.sh]? = cs.toList[i + L.sh]? := by
            rw [hsp]; rw [hv.length] at hi
            split
            · rfl
            · rw [if_neg (by omega)]
          simp only [List.getElem?_toArray] at this ⊢
          rw [this]; simpa using h3
    · cases h
  · cases h
theorem cellsOfV_size {v v' : Value} (h : VR ι v v') : v'.cells.size = (cellsOfV v).length := by have := h.cells.length; simpa using this.symm
theorem store_sound {env : Env} {a : Act} {o : Oper} {t : TypeId} {x y : Operand} {l : List (Value × LS)} (ho : o.op = .store t x y) (hS : Sim C w0 ι σ w) (hE : EnvR ι env a.tmps)
    (h : storeOp C env t x y σ = some l) (hK : Goal C w0 ι σ w l K) : UponV C.P K ((execOp a.eval o).run C.P w) := by
  simp only [execOp, ho]
  simp only [storeOp] at h
  split at h
  · rename_i p hp
    split at h
    · rename_i v hv
      simp only [oks] at h
      split at h
      · rename_i σ' hs
        cases h
        have hp' := hE.eval hp
        have hv' := hE.eval hv
        unfold storeL at hs
        split at hs
        · rename_i b off
          split at hs
          · cases hs
          · rename_i hz
            split at hs
            · rename_i hn
              split at hs
              · rename_i h1
                generalize a.eval x = p' at hp' ⊢
                generalize a.eval y = v' at hv' ⊢
                cases hp' with
                | atom h => simp [atomic] at h
                | ptr ha =>
                  rename_i r o'
                  obtain ⟨w', e1, e2⟩ := write_rel hS hs ha hv'.cells (hv'.cells.one h1)
                  refine upon_unit (w' := w') ?_ (hK.one e2 (.of_flat rfl))
                  have hsz : v'.cells.size = szOf C.P t := by rw [cellsOfV_size hv']; exact Nat.eq_of_beq_eq_true hn
                  simp [Instr.storeAt, Instr.sureAddr, storeVar, run_sizeOf hz, hsz, e1]
              · cases hs
            · cases hs
        · cases hs
      · cases h
    · cases h
  · cases h

/-! ### New rows -/
theorem new_row (hS : Sim C w0 ι σ w) {e : TypeId} {l : List Value} {l' : List Value} (hv : VL ι l l') :
    Moved C w0 ι σ w (ι.add σ.next ⟨w.heap.size, 0, 0⟩) (σ.new (.row e l.length (rowT l))) (w.alloc (.cells l'.toArray e)) := by
  refine moved_new hS 0 (.row rfl (by simp [hv.length]) fun i v h => ?_) (Grown.alloc w _)
  obtain ⟨v', h1, h2⟩ := hv.get (get_rowT _ _ _ h)
  exact ⟨v', by simpa using h1, h2.mono (Inj.add_le hS.next_none)⟩
theorem new_ptr {b : Nat} {L : Loc} (hb : b = σ.next) : VR (ι.add σ.next L) (.pointer (some ⟨Nat.mul 2 b, 0, none⟩)) (.pointer (some ⟨L.r, 0 + L.sh, none⟩)) := by
  subst hb; exact .ptr (.own _ _ _ (Inj.add_same _ _ _))
theorem newRow_sound {P : Program} {e : TypeId} {z v' : Value} {l : List (Value × LS)} (hS : Sim C w0 ι σ w) (hv : VR ι z v') (h : newRowL σ e (cellsOfV z) = some l) (hK : Goal C w0 ι σ w l K) :
    ∃ p w', (newVar e v').run P w = .ok ⟨p, 0, none⟩ w' ∧ K (.pointer (some ⟨p, 0, none⟩)) w' := by
  cases h
  refine ⟨w.heap.size, w.alloc (.cells v'.cells e), by simp [newVar, newRow], ?_⟩
  have hm := new_row (e := e) hS hv.cells
  simp only [Array.toArray_toList] at hm
  exact hK.one hm (new_ptr (L := ⟨w.heap.size, 0, 0⟩) rfl)
theorem zeroOf_spec {P : Program} {e : TypeId} {z : Value} (h : zeroOf P e = some z) : flat z = true ∧ ∀ w, (zeroValue e).run P w = .ok z w := by
  unfold zeroOf at h
  split at h
  · rename_i i hi
    split at h
    · rename_i z' hz
      split at h
      · rename_i hf; cases h
        exact ⟨hf, fun w => by simp [zeroValue, typeInfo, hi, hz]⟩
      · cases h
    · cases h
  · cases h
theorem alloc_sound {env : Env} {a : Act} {o : Oper} {e : TypeId} {l : List (Value × LS)} (ho : o.op = .alloc e) (hS : Sim C w0 ι σ w) (_hE : EnvR ι env a.tmps)
    (h : allocOp C e σ = some l) (hK : Goal C w0 ι σ w l K) : UponV C.P K ((execOp a.eval o).run C.P w) := by
  simp only [execOp, ho]
  simp only [allocOp] at h
  split at h
  · rename_i z hz
    obtain ⟨hf, hr⟩ := zeroOf_spec hz
    obtain ⟨p, w', h1, h2⟩ := newRow_sound (P := C.P) hS (.of_flat hf) h hK
    exact upon_val (by simp [Instr.alloc, hr, h1]) h2
  · cases h
theorem box_sound {env : Env} {a : Act} {o : Oper} {e : TypeId} {x : Operand} {l : List (Value × LS)} (ho : o.op = .box e x) (hS : Sim C w0 ι σ w) (hE : EnvR ι env a.tmps)
    (h : boxOp env e x σ = some l) (hK : Goal C w0 ι σ w l K) : UponV C.P K ((execOp a.eval o).run C.P w) := by
  simp only [execOp, ho]
  simp only [boxOp] at h
  split at h
  · rename_i v hv
    obtain ⟨p, w', h1, h2⟩ := newRow_sound (P := C.P) hS (hE.eval hv) h hK
    exact upon_val (by simp [Instr.box, h1]) h2
  · cases h

/-! ### Addresses -/
theorem nilCheck_sound {env : Env} {a : Act} {o : Oper} {x : Operand} {l : List (Value × LS)} (ho : o.op = .nilCheck x) (hS : Sim C w0 ι σ w) (hE : EnvR ι env a.tmps)
    (h : nilCheckOp env x σ = some l) (hK : Goal C w0 ι σ w l K) : UponV C.P K ((execOp a.eval o).run C.P w) := by
  simp only [execOp, ho]
  simp only [nilCheckOp] at h
  split at h
  · rename_i ad hx
    cases h
    have hv := hE.eval hx
    generalize a.eval x = v' at hv ⊢
    cases hv with
    | atom h => simp [atomic] at h
    | ptr ha => exact hK.same hS (.ptr ha)
  · rename_i f c d hx
    cases h
    have hv := hE.eval hx
    generalize a.eval x = v' at hv ⊢
    cases hv with
    | atom h => simp [atomic] at h
    | func h1 h2 h3 h4 => exact hK.same hS (.func h1 h2 h3 h4)
  · rename_i t v hx
    cases h
    have hv := hE.eval hx
    generalize a.eval x = v' at hv ⊢
    cases hv with
    | atom h => simp [atomic] at h
    | iface h1 => exact hK.same hS (.iface h1)
  · cases h
theorem AR.shift {b off r o : Nat} (h : AR ι b off r o) (k : Nat) : AR ι b (off + k) r (o + k) := by
  cases h with
  | ro r off => exact .ro _ _
  | own b off L h => rw [show off + L.sh + k = off + k + L.sh from by omega]; exact .own _ _ _ h
theorem fieldAddr_sound {env : Env} {a : Act} {o : Oper} {s : TypeId} {x : Operand} {f : Nat} {l : List (Value × LS)} (ho : o.op = .fieldAddr s x f) (hS : Sim C w0 ι σ w) (hE : EnvR ι env a.tmps)
    (h : fieldAddrOp C env s x f σ = some l) (hK : Goal C w0 ι σ w l K) : UponV C.P K ((execOp a.eval o).run C.P w) := by
  simp only [execOp, ho]
  simp only [fieldAddrOp] at h
  split at h
  · rename_i b off hx
    simp only [fieldAt] at h
    split at h
    · rename_i fs hu
      split at h
      · rename_i fd hfd
        split at h
        · cases h
        · rename_i hz
          cases h
          have hv := hE.eval hx
          generalize a.eval x = v' at hv ⊢
          cases hv with
          | atom h => simp [atomic] at h
          | ptr ha =>
            rename_i r q
            refine upon_val (v' := .pointer (some ⟨r, q + fd.offset, none⟩)) (w' := w) ?_ (hK.same hS (.ptr (ha.shift fd.offset)))
            simp [Instr.fieldAt, run_underlying hu, hfd, Instr.sureAddr, fieldPlace, run_sizeOf hz, hz, add_none]
            exact fun e => (hz e).elim
      · cases h
    · cases h
  · cases h
theorem idx_spec {i : Value} {len k : Nat} (h : idx i len = some k) : ∃ kd, i = .int kd (k : Int) ∧ k < len := by
  unfold idx at h
  split at h
  · rename_i kd n
    split at h
    · rename_i hlt; cases h; exact ⟨kd, rfl, by simpa [Nat.blt_eq] using hlt⟩
    · cases h
  · cases h
theorem idxPtr_spec {i : Value} {len b off sz : Nat} {l : List (Value × LS)} (h : idxPtr i len b off sz σ = some l) :
    ∃ kd k, i = .int kd (k : Nat) ∧ k < len ∧ sz ≠ 0 ∧ l = [(.pointer (some ⟨b, off + k * sz, none⟩), σ)] := by
  unfold idxPtr at h
  split at h
  · cases h
  · rename_i hz
    split at h
    · rename_i k hk
      obtain ⟨kd, rfl, hlt⟩ := idx_spec hk
      cases h
      exact ⟨kd, k, rfl, hlt, fun e => hz e, rfl⟩
    · cases h
theorem indexAddr_sound {env : Env} {a : Act} {o : Oper} {t : TypeId} {x y : Operand} {l : List (Value × LS)} (ho : o.op = .indexAddr t x y) (hS : Sim C w0 ι σ w) (hE : EnvR ι env a.tmps)
    (h : indexAddrOp C env t x y σ = some l) (hK : Goal C w0 ι σ w l K) : UponV C.P K ((execOp a.eval o).run C.P w) := by
  simp only [execOp, ho]
  simp only [indexAddrOp] at h
  split at h
  · rename_i xv hx
    split at h
    · rename_i iv hi
      have hv := hE.eval hx
      simp only [indexAt] at h
      split at h
      · rename_i len e hu
        split at h
        · rename_i b off
          obtain ⟨kd, k, rfl, hlt, hz, rfl⟩ := idxPtr_spec h
          have hi' : a.eval y = .int kd (k : Int) := (hE.eval hi).flat_eq rfl
          generalize a.eval x = v' at hv ⊢
          cases hv with
          | atom h => simp [atomic] at h
          | ptr ha =>
            rename_i r q
            refine upon_val (v' := .pointer (some ⟨r, q + k * szOf C.P e, none⟩)) (w' := w) ?_ (hK.same hS (.ptr (ha.shift _)))
            have : (0 : Int) ≤ (k : Int) ∧ (k : Int) < (len : Int) := by omega
            simp [Instr.indexAt, hi', asIntOf, run_underlying hu, Instr.sureAddr, this, run_sizeOf hz, add_none]
            omega
        · cases h
      · rename_i e hu
        split at h
        · rename_i b off len cap
          obtain ⟨kd, k, rfl, hlt, hz, rfl⟩ := idxPtr_spec h
          have hi' : a.eval y = .int kd (k : Int) := (hE.eval hi).flat_eq rfl
          have hb : (0 : Int) ≤ (k : Int) ∧ (k : Int) < (len : Int) := by omega
          generalize a.eval x = v' at hv ⊢
          cases hv with
          | atom h => simp [atomic] at h
          | slice ha hc =>
            rename_i r q
            refine upon_val (v' := .pointer (some ⟨r, q + k * szOf C.P e, none⟩)) (w' := w) ?_ (hK.same hS (.ptr (ha.shift _)))
            simp [Instr.indexAt, hi', asIntOf, run_underlying hu, hb, run_sizeOf hz, add_none]
            omega
          | oslice hL hc =>
            rename_i b lo L
            refine upon_val (v' := .pointer (some ⟨L.r, off + L.sh + k * szOf C.P e, none⟩)) (w' := w) ?_ (hK.same hS (.ptr ((AR.own _ _ _ hL).shift _)))
            simp [Instr.indexAt, hi', asIntOf, run_underlying hu, hb, run_sizeOf hz, add_none]
            omega
          | eslice hL => omega
          | zslice hL => omega
        · cases h
      · cases h
    · cases h
  · cases h
theorem extract_sound {env : Env} {a : Act} {o : Oper} {x : Operand} {ix : Nat} {l : List (Value × LS)} (ho : o.op = .extract x ix) (hS : Sim C w0 ι σ w) (hE : EnvR ι env a.tmps)
    (h : extractOp env x ix σ = some l) (hK : Goal C w0 ι σ w l K) : UponV C.P K ((execOp a.eval o).run C.P w) := by
  simp only [execOp, ho]
  simp only [extractOp] at h
  split at h
  · rename_i vs hx
    have hv := hE.eval hx
    simp only [okm] at h
    split at h
    · rename_i v hg
      cases h
      generalize a.eval x = v' at hv ⊢
      cases hv with
      | atom h => simp [atomic] at h
      | tuple hs hp =>
        rename_i vs'
        obtain ⟨u, h1, h2⟩ := (VL.of_arr hs hp).get hg
        exact upon_val (by simp at h1; simp [Instr.extract, h1]) (hK.same hS h2)
    · cases h
  · cases h
end
end Sd
