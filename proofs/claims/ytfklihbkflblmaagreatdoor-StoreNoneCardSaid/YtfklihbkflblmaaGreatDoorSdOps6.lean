import Derived.Test.YtfklihbkflblmaaGreatDoorSdOps5
import Derived.MapKept
set_option linter.all false
namespace Sd
open Go Go.RowKit
section
variable {C : Ctx} {w0 : World} {ι : Inj} {σ : LS} {w : World} {K : Value → World → Prop}

theorem args2 {xs : Array Operand} {f : Operand → Value} {x y : Value} (h : VL ι [x, y] (xs.toList.map f)) : ∃ x' y', xs.map f = #[x', y'] ∧ VR ι x x' ∧ VR ι y y' := by
  generalize hl : xs.toList.map f = l at h
  cases h with
  | cons h1 t => cases t with
    | cons h2 t => cases t with
      | nil => exact ⟨_, _, by apply Array.ext'; simpa using hl, h1, h2⟩
theorem args1 {xs : Array Operand} {f : Operand → Value} {x : Value} (h : VL ι [x] (xs.toList.map f)) : ∃ x', xs.map f = #[x'] ∧ VR ι x x' := by
  generalize hl : xs.toList.map f = l at h
  cases h with
  | cons h1 t => cases t with
    | nil => exact ⟨_, by apply Array.ext'; simpa using hl, h1⟩

theorem take_cells {ws : List Value} (h : ws.length = 0) : ws = [] := List.length_eq_zero_iff.1 h
theorem srcCells_zero {sz : Nat} {x : Value} {l : List Value} (h : srcCells C σ sz 0 x = some l) : l = [] := by
  unfold srcCells at h
  split at h
  · cases h; rfl
  · have hb : Nat.beq (Nat.mul 0 sz) 0 = true := by rw [show Nat.mul 0 sz = 0 * sz from rfl, Nat.zero_mul]; rfl
    rw [hb] at h; cases h; rfl
  · cases h; rfl
  · cases h
theorem copyAt_rel {e : TypeId} {base base' : Option Addr} {n cap cap' dl m : Nat} {x x' u : Value} {σ' : LS} (hS : Sim C w0 ι σ w) (hx : VR ι x x') (hm : lenL x = some m) (hn : n = Nat.min m dl)
    (hb : VR ι (.slice base dl cap) (.slice base' dl cap')) (h : copyAt C σ e base n x = some (u, σ')) {ts : Array TypeId} {ty t : TypeId} (ht0 : ts[0]? = some t) (ht : C.P.underlying t = some (.slice e)) :
    ∃ w', (Builtin.copy_ ts ty #[.slice base' dl cap', x']).run C.P w = .ok u w' ∧ Moved C w0 ι σ w ι σ' w' ∧ flat u = true := by
  unfold copyAt at h
  split at h
  · cases h
  · rename_i hz
    have hz : szOf C.P e ≠ 0 := hz
    split at h
    · rename_i cs hcs
      have hnm : n ≤ m := by subst hn; exact Nat.min_le_left _ _
      obtain ⟨l', e1, e2⟩ := src_rel hS hcs hx (fun k hk => by rw [hm] at hk; cases hk; exact hnm)
      have e2 := e2 w rfl
      subst hn
      have start : (Builtin.copy_ ts ty #[.slice base' dl cap', x']).run C.P w = ((do
        if let some a := base' then storeCells a l'
        pure (goInt (Nat.min m dl)) : Sem Value).run C.P w) := by
        simp [Builtin.copy_, ht0, run_underlying ht, len_rel hm hx, run_sizeOf hz, e2]
        cases base' <;> simp
      rw [start]
      split at h
      · cases h
        cases hb with
        | atom hb => exact ⟨w, by simp [goInt], .refl hS, rfl⟩
      · rename_i b off
        split at h
        · cases h
          have : l' = [] := by have := e1.length; simpa using this.symm
          subst this
          refine ⟨w, ?_, .refl hS, rfl⟩
          cases base' <;> simp [storeCells, goInt]
        · rename_i hne
          split at h
          · rename_i hone
            split at h
            · rename_i σ2 hw
              cases h
              have key : ∀ r o, AR ι b off r o → base' = some ⟨r, o, none⟩ → ∃ w', ((do
                  if let some a := base' then storeCells a l'
                  pure (goInt (Nat.min m dl)) : Sem Value).run C.P w) = .ok (.int .i64 (Nat.min m dl)) w' ∧ Moved C w0 ι σ w ι σ' w' ∧ flat (.int .i64 (Nat.min m dl)) = true := by
                rintro r o ha rfl
                obtain ⟨w', k1, k2⟩ := write_rel hS hw ha e1 (e1.one hone)
                exact ⟨w', by simp [k1, goInt], k2, rfl⟩
              have none0 : ¬ (dl = 0) := by
                rintro rfl
                rw [show Nat.min m 0 = 0 from Nat.min_zero m] at hcs
                exact hne (srcCells_zero hcs)
              cases hb with
              | atom h => simp [atomic] at h
              | slice ha hc => exact key _ _ ha rfl
              | oslice hL hc => exact key _ _ (.own _ _ _ hL) rfl
              | eslice hL => exact absurd rfl none0
              | zslice hL => exact absurd rfl none0
            · cases h
          · cases h
      · cases h
    · cases h
theorem upon_builtin {a : Act} {o : Oper} {b : Builtin} {c : Call} {args : Array Value} {s : Sem Value} {v' : Value} {w' : World} (ho : o.op = .call c) (hc : c.callee = .builtin b) (ha : c.args.map a.eval = args)
    (hb : ∀ cs, builtin b c.argTypes o.type cs args = (do pure (Next.value (← s)) : Sem Next)) (h : s.run C.P w = .ok v' w') (hk : K v' w') : UponV C.P K ((execOp a.eval o).run C.P w) := by
  simp only [execOp, ho, resolve, hc, Sem.run_bind, Sem.run_pure, Result.andThen_ok, invoke, ha, hb, h]
  exact hk
theorem one_spec {r : Option (Value × LS)} {l : List (Value × LS)} (h : one r = some l) : ∃ v σ', r = some (v, σ') ∧ l = [(v, σ')] := by
  cases r with
  | none => cases h
  | some x => cases h; exact ⟨_, _, rfl, rfl⟩
theorem okm_spec {r : Option Value} {l : List (Value × LS)} (h : okm r σ = some l) : ∃ v, r = some v ∧ l = [(v, σ)] := by
  cases r with
  | none => cases h
  | some x => cases h; exact ⟨_, rfl, rfl⟩
theorem oks_spec {r : Option LS} {v : Value} {l : List (Value × LS)} (h : oks r v = some l) : ∃ σ', r = some σ' ∧ l = [(v, σ')] := by
  cases r with
  | none => cases h
  | some x => cases h; exact ⟨_, rfl, rfl⟩

theorem VR.slice_any {base : Option Addr} {l cap : Nat} {v' : Value} (h : VR ι (.slice base l cap) v') : ∃ base' cap', v' = .slice base' l cap' := by
  cases h with
  | atom h => exact ⟨_, _, rfl⟩
  | slice => exact ⟨_, _, rfl⟩
  | oslice => exact ⟨_, _, rfl⟩
  | eslice => exact ⟨_, _, rfl⟩
  | zslice => exact ⟨_, _, rfl⟩

theorem copy_sound {a : Act} {o : Oper} {c : Call} {l : List (Value × LS)} {args : List Value} (ho : o.op = .call c) (hc : c.callee = .builtin .copy) (hS : Sim C w0 ι σ w)
    (hargs : VL ι args (c.args.toList.map a.eval)) (h : one (copyL C σ c.argTypes args) = some l) (hK : Goal C w0 ι σ w l K) : UponV C.P K ((execOp a.eval o).run C.P w) := by
  obtain ⟨v, σ', hr, rfl⟩ := one_spec h
  unfold copyL at hr
  split at hr
  · rename_i base dl cap x
    obtain ⟨s', x', he, hs, hx⟩ := args2 hargs
    split at hr
    · rename_i t ht0
      split at hr
      · rename_i e ht
        split at hr
        · rename_i m hm
          obtain ⟨base', cap', rfl⟩ := hs.slice_any
          obtain ⟨w', k1, k2, k3⟩ := copyAt_rel (ty := o.type) hS hx hm rfl hs hr ht0 ht
          exact upon_builtin ho hc he (fun _ => rfl) k1 (hK.one k2 (.of_flat k3))
        · cases hr
      · cases hr
    · cases hr
  · cases hr

/-! ### make -/
theorem wrap_small {n : Nat} (h : n ≤ 1099511627776) : IntKind.i64.wrap (n : Int) = (n : Int) := IntWalk.i64_in _ (by omega)
theorem makeSlice_run {P : Program} {t e : TypeId} {k k' : IntKind} {l c : Nat} {z : Value} (hu : P.underlying t = some (.slice e)) (hz : szOf P e ≠ 0) (hzv : ∀ w, (zeroValue e).run P w = .ok z w) (hzs : z.cells.size = szOf P e)
    (hlc : l ≤ c) (hb : c * bytesOfT P e ≤ 1099511627776) (hb2 : c ≤ 1099511627776) (w : World) :
    (Instr.makeSlice t (.int k (l : Int)) (.int k' (c : Int))).run P w = .ok (.slice (some ⟨w.heap.size, 0, none⟩) l c) (w.alloc (.cells (repeatCells z.cells.toList c).toArray e)) := by
  obtain ⟨i, hi, hs⟩ := info_of_sz hz
  rw [bytesOfT_eq hi] at hb
  have w1 : IntKind.i64.wrap (l : Int) = (l : Int) := wrap_small (by omega)
  have w2 : IntKind.i64.wrap (c : Int) = (c : Int) := wrap_small hb2
  have n1 : ¬ ((i.bytes : Int) * (c : Int) > 2 ^ 48) := by
    rw [← Int.natCast_mul, Nat.mul_comm]; generalize c * i.bytes = q at hb; omega
  have n2 : ¬ ((c : Int) < 0) := by omega
  have n3 : ¬ ((l : Int) < 0) := by omega
  have n4 : ¬ ((l : Int) > (c : Int)) := by omega
  have hm := range_map_repeat z.cells (by omega) c (c * szOf P e) (by rw [hzs])
  by_cases h0 : c * szOf P e = 0
  · have hc0 : c = 0 := by rcases Nat.mul_eq_zero.1 h0 with h | h; exact h; exact absurd h hz
    subst hc0
    obtain rfl : l = 0 := by omega
    have w00 : IntKind.i64.wrap 0 = 0 := IntWalk.i64_in 0 (by omega)
    simp [Instr.makeSlice, run_underlying hu, asInt, asIntOf, typeInfo, hi, Go.sizeOf, w00, newRow, repeatCells, show (Array.range 0) = #[] from rfl]
  · simp [Instr.makeSlice, run_underlying hu, asInt, asIntOf, typeInfo, hi, hs, Go.sizeOf, w1, w2, n2, n3, n4, h0, hzv, newRow, hm]
    intro h
    exact absurd (by simpa using h) n1
theorem makeSlice_sound {env : Env} {a : Act} {o : Oper} {t : TypeId} {x y : Operand} {l : List (Value × LS)} (ho : o.op = .makeSlice t x y) (hS : Sim C w0 ι σ w) (hE : EnvR ι env a.tmps)
    (h : makeSliceOp C env t x y σ = some l) (hK : Goal C w0 ι σ w l K) : UponV C.P K ((execOp a.eval o).run C.P w) := by
  simp only [execOp, ho]
  unfold makeSliceOp at h
  split at h
  · rename_i e hu
    split at h
    · rename_i z hz
      obtain ⟨hzf, hzr⟩ := zeroOf_spec hz
      split at h
      · rename_i k lv hl
        split at h
        · rename_i k' cv hc
          have hl' : a.eval x = .int k lv := (hE.eval hl).flat_eq rfl
          have hc' : a.eval y = .int k' cv := (hE.eval hc).flat_eq rfl
          unfold makeSliceAt at h
          split at h
          · rename_i n
            split at h
            · rename_i c
              split at h
              · cases h
              · rename_i hsz
                split at h
                · rename_i hcond
                  cases h
                  simp only [Bool.and_eq_true] at hcond
                  obtain ⟨⟨⟨c1, c2⟩, c3⟩, c4⟩ := hcond
                  have c1 := Nat.le_of_ble_eq_true c1
                  obtain ⟨b1, b2⟩ := smallLen_spec c2
                  have c4 := Nat.eq_of_beq_eq_true c4
                  have hzs : z.cells.size = szOf C.P e := by rw [← c4, ← cells_toList]; simp
                  rw [hl', hc']
                  refine upon_val (makeSlice_run (l := n) (c := c) hu hsz hzr hzs c1 b1 b2 w) ?_
                  have hm := new_row (e := e) hS (VL.repeat (VL.of_flat hzf) c)
                  rw [cells_toList]
                  exact hK.one hm (by simpa using VR.slice (ι := ι.add σ.next ⟨w.heap.size, 0, 0⟩) (off := 0) (l := n) (cap := c) (.own σ.next 0 _ (Inj.add_same _ _ _)) (by unfold UNK; omega))
                · cases h
            · cases h
          · cases h
        · cases h
      · cases h
    · cases h
  · cases h
def noRow : Obj → Bool
  | .cells _ _ _ => false
  | _ => true
theorem getObj_at {P : Program} {r : Nat} {o : Obj} {w : World} (h : w.heap[r]? = some o) (hn : noRow o = true := by rfl) : (getObj r).run P w = .ok o w := by
  cases o <;> simp_all [getObj, Sem.run, noRow]
theorem setObj_at {P : Program} {r : Nat} {o : Obj} {w : World} (o' : Obj) (h : w.heap[r]? = some o) (hn : noRow o = true := by rfl) : (setObj r o').run P w = .ok () { w with heap := w.heap.setIfInBounds r o' } := by
  cases o <;> simp_all [setObj, Sem.run, noRow]
theorem new_map (hS : Sim C w0 ι σ w) : Moved C w0 ι σ w (ι.add σ.next ⟨w.heap.size, 0, 0⟩) (σ.new (.map [] 0)) (w.alloc (.map #[] 0)) :=
  moved_new hS 0 (.map .nil) (Grown.alloc w _)
theorem makeMap_sound {a : Act} {o : Oper} {t : TypeId} {l : List (Value × LS)} (ho : o.op = .makeMap t none) (hS : Sim C w0 ι σ w)
    (h : okv (.map (some (Nat.mul 2 σ.next))) (σ.new (.map [] 0)) = some l) (hK : Goal C w0 ι σ w l K) : UponV C.P K ((execOp a.eval o).run C.P w) := by
  simp only [execOp, ho]
  cases h
  refine upon_val (v' := .map (some w.heap.size)) (w' := w.alloc (.map #[] 0)) (by simp [Instr.makeMap]) (hK.one (new_map hS) ?_)
  exact .map (L := ⟨w.heap.size, 0, 0⟩) (Inj.add_same _ _ _)

/-! ### type assertions -/
theorem assert_sound {env : Env} {a : Act} {o : Oper} {x : Operand} {u t : TypeId} {ok : Bool} {l : List (Value × LS)} (ho : o.op = .typeAssert x u t ok) (hS : Sim C w0 ι σ w) (hE : EnvR ι env a.tmps)
    (h : assertOp C env x t ok σ = some l) (hK : Goal C w0 ι σ w l K) : UponV C.P K ((execOp a.eval o).run C.P w) := by
  simp only [execOp, ho]
  unfold assertOp at h
  split at h
  · rename_i d v hx
    split at h
    · cases h
    · rename_i desc hne hu
      split at h
      · rename_i hb
        have hb := Nat.eq_of_beq_eq_true hb
        subst hb
        cases h
        have hv := hE.eval hx
        generalize a.eval x = x' at hv ⊢
        cases hv with
        | atom h => simp [atomic] at h
        | iface hv =>
          rename_i v'
          refine upon_val (v' := if ok then .tuple #[v', .bool true] else v') (w' := w) ?_ (hK.same hS ?_)
          · simp only [Instr.typeAssert, Sem.run_bind, run_underlying hu, Result.andThen_ok]
            cases desc <;> first
              | exact absurd rfl (hne _)
              | (show Sem.run C.P (if True then (pure (if ok then Value.tuple #[v', .bool true] else v') : Sem Value) else _) w = _
                 rw [if_pos trivial]; rfl)
          · cases ok
            · exact hv
            · exact .tuple' (.cons hv (.cons (.atom rfl) .nil))
      · cases h
    · cases h
  · cases h

/-! ### len, cap, unsafe.SliceData, min, max -/
theorem mapOf_spec {r : Nat} {x : List (Value × Value × Nat) × Nat} (h : mapOf σ r = some x) : nmod2 r = true ∧ σ.heap.get (r / 2) = some (.map x.1 x.2) := by
  unfold mapOf at h
  split at h
  · rename_i es clock hs
    cases h
    exact seen_spec hs
  · cases h
theorem ER.length {es : List (Value × Value × Nat)} {es' : List MapEntry} (h : ER ι es es') : es'.length = es.length := by
  induction h with
  | nil => rfl
  | cons _ _ _ ih => simp [ih]
/-- the real map behind a map that is looked at -/
theorem map_rel (hS : Sim C w0 ι σ w) {r : Nat} {es : List (Value × Value × Nat)} {clock : Nat} {m' : Value} (h : mapOf σ r = some (es, clock)) (hm : VR ι (.map (some r)) m') :
    ∃ r' es', m' = .map (some r') ∧ w.heap[r']? = some (.map es' clock) ∧ ER ι es es'.toList := by
  obtain ⟨hb, hg⟩ := mapOf_spec h
  have e := nmod2_true hb
  cases hm with
  | atom h => simp [atomic] at h
  | map hL =>
    rename_i b L
    rw [show 2 * b / 2 = b from by omega] at hg
    obtain ⟨L', ro, h1, h2, h3⟩ := hS.live _ _ hg
    rw [hL] at h1; cases h1
    cases h3 with
    | map he => exact ⟨_, _, rfl, h2, he⟩
theorem pureIf_sound {env : Env} {a : Act} {o : Oper} {l : List (Value × LS)} {b : Bool} (hS : Sim C w0 ι σ w) (hE : EnvR ι env a.tmps) (hb : b = true → flatOps env o = true)
    (hs : ∀ cs b, o.op ≠ .select cs b) (h : pureIf b C o env σ = some l) (hK : Goal C w0 ι σ w l K) : UponV C.P K ((execOp a.eval o).run C.P w) := by
  unfold pureIf at h
  split at h
  · exact pureOp_sound hS hE (hb rfl) hs h hK
  · cases h
theorem arr0 {α β : Type} {xs : Array α} {f : α → β} {x : β} (h : xs.map f = #[x]) : (xs.map f)[0]? = some x := by rw [h]; rfl
theorem VR.tok_string {ι : Inj} {v : Value} (h : VR ι (.chan (some 2)) v) : ∃ s, v = .string s := by
  cases h with
  | atom h => cases h
  | tok h => unfold hasTok at h; split at h <;> simp_all
theorem VR.tok_slice {ι : Inj} {v : Value} (h : VR ι (.chan (some 4)) v) : ∃ b n cap, v = .slice b n cap := by
  cases h with
  | atom h => cases h
  | tok h => unfold hasTok at h; split at h <;> simp_all
theorem VR.tok_int {ι : Inj} {v : Value} (h : VR ι (.chan (some 1)) v) : ∃ n, v = .int .i64 n := by
  cases h with
  | atom h => cases h
  | tok h => unfold hasTok at h; split at h <;> simp_all
theorem len_sound {env : Env} {a : Act} {o : Oper} {c : Call} {l : List (Value × LS)} {args : List Value} (ho : o.op = .call c) (hc : c.callee = .builtin .len) (hS : Sim C w0 ι σ w) (hE : EnvR ι env a.tmps)
    (hargs : VL ι args (c.args.toList.map a.eval)) (h : lenOp C o c args env σ = some l) (hK : Goal C w0 ι σ w l K) : UponV C.P K ((execOp a.eval o).run C.P w) := by
  unfold lenOp at h
  split at h
  · rename_i t ht0
    split at h
    · rename_i d ht
      unfold lenAt at h
      split at h
      · split at h
        · rename_i s
          cases h
          obtain ⟨x', he, hx⟩ := args1 hargs
          have : x' = .string s := hx.flat_eq rfl
          subst this
          exact upon_builtin ho hc he (fun _ => rfl) (v' := .int .i64 s.size) (w' := w) (by simp [Builtin.len_, ht0, run_underlying ht, goInt]) (hK.same hS (.of_flat rfl))
        · cases h
          obtain ⟨x', he, hx⟩ := args1 hargs
          obtain ⟨s, rfl⟩ := hx.tok_string
          exact upon_builtin ho hc he (fun _ => rfl) (v' := .int .i64 s.size) (w' := w) (by simp [Builtin.len_, ht0, run_underlying ht, goInt]) (hK.same hS (.tok rfl))
        · cases h
      · split at h
        · rename_i base n cap
          cases h
          obtain ⟨x', he, hx⟩ := args1 hargs
          obtain ⟨base', cap', rfl⟩ := hx.slice_any
          exact upon_builtin ho hc he (fun _ => rfl) (v' := .int .i64 n) (w' := w) (by simp [Builtin.len_, ht0, run_underlying ht, goInt]) (hK.same hS (.of_flat rfl))
        · cases h
          obtain ⟨x', he, hx⟩ := args1 hargs
          obtain ⟨base, n, cap, rfl⟩ := hx.tok_slice
          exact upon_builtin ho hc he (fun _ => rfl) (v' := .int .i64 n) (w' := w) (by simp [Builtin.len_, ht0, run_underlying ht, goInt]) (hK.same hS (.tok rfl))
        · cases h
      · split at h
        · cases h
          obtain ⟨x', he, hx⟩ := args1 hargs
          have : x' = .map none := hx.flat_eq rfl
          subst this
          exact upon_builtin ho hc he (fun _ => rfl) (v' := .int .i64 0) (w' := w) (by simp [Builtin.len_, ht0, run_underlying ht, goInt]) (hK.same hS (.of_flat rfl))
        · rename_i r
          split at h
          · rename_i es clock hm
            cases h
            obtain ⟨x', he, hx⟩ := args1 hargs
            obtain ⟨r', es', rfl, h1, h2⟩ := map_rel hS hm hx
            refine upon_builtin ho hc he (fun _ => rfl) (v' := .int .i64 es.length) (w' := w) ?_ (hK.same hS (.of_flat rfl))
            have := h2.length
            simp only [Array.length_toList] at this
            simp [Builtin.len_, ht0, run_underlying ht, getObj_at h1, this, goInt]
          · cases h
        · cases h
      · exact pureIf_sound hS hE id (by simp [ho]) h hK
    · cases h
  · cases h
theorem cap_sound {a : Act} {o : Oper} {c : Call} {l : List (Value × LS)} {args : List Value} (ho : o.op = .call c) (hc : c.callee = .builtin .cap) (hS : Sim C w0 ι σ w)
    (hargs : VL ι args (c.args.toList.map a.eval)) (h : capOp C c args σ = some l) (hK : Goal C w0 ι σ w l K) : UponV C.P K ((execOp a.eval o).run C.P w) := by
  unfold capOp at h
  split at h
  · rename_i base n cap
    split at h
    · rename_i hlt
      have hlt := lt_unk hlt
      split at h
      · rename_i t ht0
        split at h
        · rename_i e ht
          cases h
          obtain ⟨x', he, hx⟩ := args1 hargs
          have key : ∃ base' n', x' = .slice base' n' cap := by
            cases hx with
            | atom h => exact ⟨_, _, rfl⟩
            | slice => exact ⟨_, _, rfl⟩
            | oslice => omega
            | eslice => omega
            | zslice => exact ⟨_, _, rfl⟩
          obtain ⟨base', n', rfl⟩ := key
          exact upon_builtin ho hc he (fun _ => rfl) (v' := .int .i64 cap) (w' := w) (by simp [Builtin.cap_, ht0, run_underlying ht, goInt]) (hK.same hS (.of_flat rfl))
        · cases h
      · cases h
    · cases h
  · cases h
theorem sliceData_sound {a : Act} {o : Oper} {c : Call} {l : List (Value × LS)} {args : List Value} (ho : o.op = .call c) (hc : c.callee = .builtin .unsafeSliceData) (hS : Sim C w0 ι σ w)
    (hargs : VL ι args (c.args.toList.map a.eval)) (h : sliceDataOp args σ = some l) (hK : Goal C w0 ι σ w l K) : UponV C.P K ((execOp a.eval o).run C.P w) := by
  unfold sliceDataOp at h
  split at h
  · cases h
    obtain ⟨x', he, hx⟩ := args1 hargs
    have key : ∃ n' cap', x' = .slice none n' cap' := by cases hx with | atom h => exact ⟨_, _, rfl⟩
    obtain ⟨n', cap', rfl⟩ := key
    exact upon_builtin ho hc he (fun _ => rfl) (v' := .pointer none) (w' := w) rfl (hK.same hS (.of_flat rfl))
  · rename_i ad n cap
    split at h
    · rename_i hle
      have hle := Nat.le_of_ble_eq_true hle
      cases h
      obtain ⟨x', he, hx⟩ := args1 hargs
      have key : ∃ a' cap', x' = .slice (some a') (n + 1) cap' ∧ cap' ≠ 0 ∧ VR ι (.pointer (some ad)) (.pointer (some a')) := by
        cases hx with
        | atom h => simp [atomic] at h
        | slice ha hc => exact ⟨_, _, rfl, by omega, .ptr ha⟩
        | oslice hL hc => exact ⟨_, _, rfl, by omega, .ptr (.own _ _ _ hL)⟩
      obtain ⟨a', cap', rfl, h0, hv⟩ := key
      exact upon_builtin ho hc he (fun _ => rfl) (v' := .pointer (some a')) (w' := w) (by show Sem.run C.P (if cap' ≠ 0 then (pure (.pointer (some a')) : Sem Value) else _) w = _; rw [if_pos h0]; rfl) (hK.same hS hv)
    · cases h
  · cases h
end
end Sd
