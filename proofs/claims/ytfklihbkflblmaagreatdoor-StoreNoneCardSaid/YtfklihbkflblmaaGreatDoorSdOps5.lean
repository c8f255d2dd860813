import Derived.Test.YtfklihbkflblmaaGreatDoorSdOps4
import Derived.IntWalk
set_option linter.all false
namespace Sd
open Go Go.RowKit
section
variable {C : Ctx} {w0 : World} {ι : Inj} {σ : LS} {w : World} {K : Value → World → Prop}

/-! ### append, copy -/
theorem firstCells_none (P : Program) (sz n l c : Nat) (w : World) : (Builtin.firstCells sz n (.slice none l c)).run P w = .ok #[] w := rfl
theorem loadCells_heap {P : Program} {a : Addr} {n : Nat} {cs : List Value} (hl : cs.length = n) (h : ∀ j v, cs[j]? = some v → w.cell? (a.add j) = some v) {w' : World} (hw : w'.heap = w.heap) :
    (loadCells a n).run P w' = .ok cs.toArray w' := by
  have := run_loadCells_list (P := P) w' a cs fun j v hv => by
    have := h j v hv
    simpa [World.cell?, hw] using this
  rwa [hl] at this
theorem src_rel (hS : Sim C w0 ι σ w) {sz n : Nat} {x x' : Value} {l : List Value} (h : srcCells C σ sz n x = some l) (hx : VR ι x x') (hn : ∀ m, lenL x = some m → n ≤ m) :
    ∃ l', VL ι l l' ∧ ∀ w', w'.heap = w.heap → (Builtin.firstCells sz n x').run C.P w' = .ok l'.toArray w' := by
  unfold srcCells at h
  split at h
  · cases h
    cases hx with
    | atom h => exact ⟨[], .nil, fun w' _ => rfl⟩
  · rename_i b off len cap
    have hz0 : n * sz = 0 → l = [] := by
      intro e
      split at h
      · cases h; rfl
      · rename_i hb; rw [show Nat.mul n sz = n * sz from rfl, e] at hb; cases hb
    have hz1 : n * sz ≠ 0 → ∃ c, rowOf C σ b = some c ∧ readCells c off (n * sz) = some l := by
      intro e
      split at h
      · rename_i hb; exact absurd (Nat.eq_of_beq_eq_true hb) e
      · split at h
        · rename_i c hc; exact ⟨c, hc, h⟩
        · cases h
    have zero : ∀ r o len' cap', n * sz = 0 → ∃ l', VL ι l l' ∧ ∀ w', w'.heap = w.heap → (Builtin.firstCells sz n (.slice (some ⟨r, o, none⟩) len' cap')).run C.P w' = .ok l'.toArray w' := by
      intro r o len' cap' hz
      rw [hz0 hz]
      refine ⟨[], .nil, fun w' _ => ?_⟩
      simp [Builtin.firstCells, hz, loadCells, loadCellsFrom]
    have key : ∀ r o len' cap', AR ι b off r o →
        ∃ l', VL ι l l' ∧ ∀ w', w'.heap = w.heap → (Builtin.firstCells sz n (.slice (some ⟨r, o, none⟩) len' cap')).run C.P w' = .ok l'.toArray w' := by
      intro r o len' cap' ha
      by_cases hz : n * sz = 0
      · exact zero r o len' cap' hz
      · obtain ⟨c, hr, hl⟩ := hz1 hz
        obtain ⟨l', e1, e2, e3, _⟩ := run_loadCells_rel hS hr ha hl
        exact ⟨l', e1, fun w' hw => by simpa [Builtin.firstCells] using loadCells_heap e2 e3 hw⟩
    cases hx with
    | atom h => simp [atomic] at h
    | @slice _ _ r o _ _ ha hc => exact key r o _ _ ha
    | @oslice b off _ lo L hL hc => exact key _ _ _ _ (.own _ _ _ hL)
    | @eslice b off lo r o L hL =>
      obtain rfl : n = 0 := by have := hn 0 rfl; omega
      exact zero r o _ _ (by simp)
    | @zslice b off r o L hL =>
      obtain rfl : n = 0 := by have := hn 0 rfl; omega
      exact zero r o _ _ (by simp)
  · rename_i s
    cases h
    cases hx with
    | atom h =>
      refine ⟨_, .of_get rfl fun i v hv => ⟨v, hv, .atom ?_⟩, fun w' _ => ?_⟩
      · obtain ⟨u, _, rfl⟩ := List.mem_map.1 (List.mem_of_getElem? hv); rfl
      · simp only [Builtin.firstCells, Sem.run_pure]
        congr 1
        apply Array.ext'
        simp [ByteArray.data_extract]
  · cases h
theorem len_rel {x x' : Value} {m : Nat} (h : lenL x = some m) (hx : VR ι x x') (P : Program) (w : World) : (Builtin.lenOf x').run P w = .ok m w := by
  cases hx with
  | atom ha =>
    cases x <;> simp [lenL] at h
    · subst h; rfl
    · subst h; rfl
  | slice | oslice | eslice | zslice => simp [lenL] at h; subst h; rfl
  | _ => simp [lenL] at h

theorem smallLen_spec {e : TypeId} {n : Nat} (h : smallLen C e n = true) : n * bytesOfT C.P e ≤ 1099511627776 ∧ n ≤ 1099511627776 := by
  simp only [smallLen, Bool.and_eq_true] at h
  exact ⟨Nat.le_of_ble_eq_true h.1, Nat.le_of_ble_eq_true h.2⟩
theorem bytesOfT_eq {P : Program} {e : TypeId} {i : TypeInfo} (hi : P.info? e = some i) : bytesOfT P e = i.bytes := by simp [bytesOfT, hi]
theorem szOf_eq {P : Program} {e : TypeId} {i : TypeInfo} (hi : P.info? e = some i) : szOf P e = i.size := by simp [szOf, hi]

/-- what is appended, as 'append' finds it -/
def NewsAt (P : Program) (ts : Array TypeId) (e : TypeId) (x' : Value) (m : Nat) (news : List Value) (w : World) : Prop :=
  (∃ u, ts[1]? = some u ∧ ((∃ d, P.underlying u = some d ∧ (∀ k, d ≠ .int k)) ∧ (∀ w', (Builtin.lenOf x').run P w' = .ok m w') ∧ (∀ w', w'.heap = w.heap → (Builtin.firstCells (szOf P e) m x').run P w' = .ok news.toArray w')))
  ∨ (∃ u k k' z, ts[1]? = some u ∧ P.underlying u = some (.int k) ∧ x' = .int k' (m : Int) ∧ 0 < m ∧ m ≤ 16777216 ∧ (∀ w', (zeroValue e).run P w' = .ok z w') ∧ news = repeatCells z.cells.toList m ∧ z.cells.size = szOf P e)

theorem zeroCells_eq (z : Array Value) (n : Nat) (hz : 0 < z.size) : Builtin.zeroCells z n = (repeatCells z.toList n).toArray := range_map_repeat z hz n _ rfl

theorem run_append_stay {P : Program} {ts : Array TypeId} {ty t e : TypeId} {x' : Value} {m l cap : Nat} {news : List Value} {base : Option Addr} (ht0 : ts[0]? = some t) (ht : P.underlying t = some (.slice e)) (hz : szOf P e ≠ 0)
    (hn : NewsAt P ts e x' m news w) (hb : m * bytesOfT P e ≤ 1099511627776) (h : l + m ≤ cap) {w' : World} (hst : (match base with | some a => storeCells (a.add (l * szOf P e)) news | none => pure () : Sem Unit).run P w = .ok () w') :
    (Builtin.append_ ts ty #[.slice base l cap, x']).run P w = .ok (.slice base (l + m) cap) w' := by
  obtain ⟨i, hi, hs⟩ := info_of_sz hz
  rw [bytesOfT_eq hi] at hb
  rcases hn with ⟨u, hu, ⟨d, hd, hk⟩, hlen, hfc⟩ | ⟨u, k, k', z, hu, hud, rfl, h0, hm, hzv, rfl, hzs⟩
  · cases base with
    | none => simp [Builtin.append_, ht0, run_underlying ht, Go.sizeOf, typeInfo, hi, hs, hu, run_underlying hd, hlen, h, hfc w rfl] at hst ⊢; exact hst
    | some a => simp [Builtin.append_, ht0, run_underlying ht, Go.sizeOf, typeInfo, hi, hs, hu, run_underlying hd, hlen, h, hfc w rfl, hst]
  · have hw : IntKind.i64.wrap (m : Int) = (m : Int) := IntWalk.i64_in _ (by omega)
    have h48 : ¬ (281474976710656 < (m : Int) * (i.bytes : Int)) := by
      rw [← Int.natCast_mul]
      generalize m * i.bytes = q at hb
      omega
    have hneg : ¬ ((m : Int) < 0) := by omega
    have hzc : Builtin.zeroCells z.cells m = (repeatCells z.cells.toList m).toArray := zeroCells_eq z.cells m (by omega)
    have h1 : ¬ (m * szOf P e = 0) := by simp [Nat.mul_eq_zero, hz]; omega
    cases base with
    | none => simp [Builtin.append_, ht0, run_underlying ht, Go.sizeOf, typeInfo, hi, hs, hu, run_underlying hud, asInt, asIntOf, hw, h48, hneg, h, h1, hzv, hzc] at hst ⊢; exact hst
    | some a => simp [Builtin.append_, ht0, run_underlying ht, Go.sizeOf, typeInfo, hi, hs, hu, run_underlying hud, asInt, asIntOf, hw, h48, hneg, h, h1, hzv, hzc, hst]
theorem run_append_more {P : Program} {ts : Array TypeId} {ty t e : TypeId} {x' z : Value} {m l cap : Nat} {news olds : List Value} {base : Option Addr} (ht0 : ts[0]? = some t) (ht : P.underlying t = some (.slice e)) (hz : szOf P e ≠ 0)
    (hzv : ∀ w', (zeroValue e).run P w' = .ok z w') (hn : NewsAt P ts e x' m news w) (hb : (l + m) * bytesOfT P e ≤ 1099511627776) (hb2 : l + m ≤ 1099511627776) (h : cap < l + m)
    (hold : ∀ w', w'.heap = w.heap → (Builtin.firstCells (szOf P e) l (.slice base l cap)).run P w' = .ok olds.toArray w') :
    (Builtin.append_ ts ty #[.slice base l cap, x']).run P w =
      .ok (.slice (some ⟨w.heap.size, 0, none⟩) (l + m) (grownCap w (l + m) cap e)) (w.drew.alloc (.cells (olds.toArray ++ news.toArray ++ Builtin.zeroCells z.cells (grownCap w (l + m) cap e - (l + m))) e)) := by
  obtain ⟨i, hi, hs⟩ := info_of_sz hz
  rw [bytesOfT_eq hi] at hb
  have hfit := growslice_fits (bytes := i.bytes) h (by omega)
  have hn1 : ¬ (l + m ≤ cap) := by omega
  have h63' : ¬ (9223372036854775807 < ((l : Int) + (m : Int))) := by omega
  have h48' : ¬ (281474976710656 < Builtin.nextslicecap (l + m) cap * i.bytes) := by omega
  have hol := hold w.drew rfl
  rcases hn with ⟨u, hu, ⟨d, hd, hk⟩, hlen, hfc⟩ | ⟨u, k, k', z', hu, hud, rfl, h0, hm, hzv', rfl, hzs⟩
  · have hfd := hfc w.drew rfl
    simp [Builtin.append_, ht0, run_underlying ht, Go.sizeOf, typeInfo, hi, hs, hu, run_underlying hd, hlen, hn1, h63', h48', hzv, Question.forced, hol, hfd, newRow, grownCap]
    congr 2
    apply Array.ext'
    simp [List.append_assoc]
  · obtain rfl : z' = z := by have e1 := hzv w; rw [hzv' w] at e1; injection e1
    have hw : IntKind.i64.wrap (m : Int) = (m : Int) := IntWalk.i64_in _ (by omega)
    have h48 : ¬ (281474976710656 < (m : Int) * (i.bytes : Int)) := by
      rw [← Int.natCast_mul]
      have : m * i.bytes ≤ (l + m) * i.bytes := Nat.mul_le_mul_right _ (by omega)
      generalize m * i.bytes = q at this
      generalize (l + m) * i.bytes = q' at this hb
      omega
    have hneg : ¬ ((m : Int) < 0) := by omega
    have hzc : Builtin.zeroCells z'.cells m = (repeatCells z'.cells.toList m).toArray := zeroCells_eq z'.cells m (by omega)
    have h1 : ¬ (m * szOf P e = 0) := by simp [Nat.mul_eq_zero, hz]; omega
    simp [Builtin.append_, ht0, run_underlying ht, Go.sizeOf, typeInfo, hi, hs, hu, run_underlying hud, asInt, asIntOf, hw, h48, hneg, hn1, h63', h48', h1, hzv, hzc, Question.forced, hol, newRow, grownCap]
    congr 2
    apply Array.ext'
    simp [List.append_assoc]

theorem VR.slice_inv {b off l cap : Nat} {v' : Value} (h : VR ι (.slice (some ⟨b, off, none⟩) l cap) v') :
    (∃ r o, v' = .slice (some ⟨r, o, none⟩) l cap ∧ cap < UNK ∧ AR ι b off r o) ∨
    (∃ b2 L lo, b = 2 * b2 ∧ cap = UNK + lo ∧ ι b2 = some L ∧ l + lo ≤ L.cap ∧ v' = .slice (some ⟨L.r, off + L.sh, none⟩) l (L.cap - lo)) ∨
    (∃ b2 L lo r o, b = 2 * b2 ∧ cap = UNK + lo ∧ l = 0 ∧ ι b2 = some L ∧ v' = .slice (some ⟨r, o, none⟩) 0 0) ∨
    (∃ b2 L r o, b = 2 * b2 ∧ cap = 0 ∧ l = 0 ∧ ι b2 = some L ∧ v' = .slice (some ⟨r, o, none⟩) 0 0) := by
  cases h with
  | atom h => simp [atomic] at h
  | slice ha hc => exact .inl ⟨_, _, rfl, hc, ha⟩
  | oslice hL hc => exact .inr (.inl ⟨_, _, _, rfl, rfl, hL, hc, rfl⟩)
  | eslice hL => exact .inr (.inr (.inl ⟨_, _, _, _, _, rfl, rfl, rfl, hL, rfl⟩))
  | zslice hL => exact .inr (.inr (.inr ⟨_, _, _, _, rfl, rfl, rfl, hL, rfl⟩))

/-! the cases of append -/
theorem fresh_rel (hS : Sim C w0 ι σ w) {e : TypeId} {m : Nat} {cs cs' : List Value} {z : Value} {cap : Nat} (hv : VL ι cs cs') (hzs : z.cells.size = szOf C.P e) (hl : cs.length = m * szOf C.P e) (hm : m ≤ 1099511627776)
    {w' : World} (hw : Grown w w' (.cells (cs'.toArray ++ Builtin.zeroCells z.cells (grownCap w m cap e - m)) e)) :
    Moved C w0 ι σ w (ι.add σ.next ⟨w.heap.size, 0, grownCap w m cap e⟩) (σ.new (.orow e cs.length (rowT cs))) w' ∧
      VR (ι.add σ.next ⟨w.heap.size, 0, grownCap w m cap e⟩) (.slice (some ⟨Nat.mul 2 σ.next, 0, none⟩) m UNK) (.slice (some ⟨w.heap.size, 0, none⟩) m (grownCap w m cap e)) := by
  have hge := grownCap_ge w m cap e
  have hcm : grownCap w m cap e ≤ maxLen := grownCap_le_maxLen w m cap e (by simp only [maxLen]; omega)
  refine ⟨moved_new hS _ (.orow ?_ ?_ hcm fun i v h => ?_) hw, ?_⟩
  · simp [hv.length]
  · simp only [Array.size_append, List.size_toArray, size_zeroCells, hzs, ← hv.length, hl, Nat.zero_add, ← Nat.add_mul]
    exact Nat.mul_le_mul_right _ (by omega)
  · obtain ⟨v', h1, h2⟩ := hv.get (get_rowT _ _ _ h)
    refine ⟨v', ?_, h2.mono (Inj.add_le hS.next_none)⟩
    have hlt : i < cs'.length := (List.getElem?_eq_some_iff.1 h1).1
    rw [Nat.add_zero, Array.getElem?_append_left (by simpa using hlt)]
    simpa using h1
  · have := VR.oslice (ι := ι.add σ.next ⟨w.heap.size, 0, grownCap w m cap e⟩) (off := 0) (l := m) (lo := 0) (Inj.add_same _ _ _) (by simpa using hge)
    simpa using this
theorem Turned.self {r : Nat} {ro : Obj} (h : w.heap[r]? = some ro) : Turned w w r ro := ⟨rfl, h, fun _ _ => rfl, rfl, rfl, rfl⟩

theorem append_nil_rel {ts : Array TypeId} {ty t e : TypeId} {x' z : Value} {m : Nat} {news news' : List Value} {u : Value} {σ' : LS} (hS : Sim C w0 ι σ w) (ht0 : ts[0]? = some t) (ht : C.P.underlying t = some (.slice e)) (hz : szOf C.P e ≠ 0)
    (hzv : ∀ w', (zeroValue e).run C.P w' = .ok z w') (hzs : z.cells.size = szOf C.P e) (hn : NewsAt C.P ts e x' m news' w) (hv : VL ι news news') (hl : news.length = m * szOf C.P e) (hb : m * bytesOfT C.P e ≤ 1099511627776) (hb2 : m ≤ 1099511627776)
    (h : appendNil σ e m news = some (u, σ')) : ∃ ι' v' w', (Builtin.append_ ts ty #[.slice none 0 0, x']).run C.P w = .ok v' w' ∧ Moved C w0 ι σ w ι' σ' w' ∧ VR ι' u v' := by
  unfold appendNil at h
  split at h
  · cases h
    have := run_append_stay (ty := ty) (l := 0) (cap := 0) (base := none) ht0 ht hz hn hb (by simp) (w' := w) rfl
    exact ⟨ι, _, _, by simpa using this, .refl hS, .atom rfl⟩
  · rename_i hm0
    have hm : 0 < m := Nat.pos_of_ne_zero hm0
    simp only [freshRow] at h
    cases h
    have := run_append_more (ty := ty) (l := 0) (cap := 0) (base := none) (olds := []) ht0 ht hz hzv hn (by simpa using hb) (by simpa using hb2) (by omega) (fun w' _ => rfl)
    simp only [Nat.zero_add] at this
    obtain ⟨h1, h2⟩ := fresh_rel (z := z) (cap := 0) hS hv hzs hl hb2 (w' := w.drew.alloc (.cells (news'.toArray ++ Builtin.zeroCells z.cells (grownCap w m 0 e - m)) e)) (Grown.drew_alloc w _)
    exact ⟨_, _, _, by rw [this]; simp, h1, h2⟩

theorem append_some_rel {ts : Array TypeId} {ty t e : TypeId} {x' z : Value} {m b off l cap : Nat} {news news' : List Value} {u : Value} {σ' : LS} {s' : Value} (hS : Sim C w0 ι σ w) (ht0 : ts[0]? = some t) (ht : C.P.underlying t = some (.slice e)) (hz : szOf C.P e ≠ 0)
    (hzv : ∀ w', (zeroValue e).run C.P w' = .ok z w') (hzs : z.cells.size = szOf C.P e) (hn : NewsAt C.P ts e x' m news' w) (hv : VL ι news news') (h1 : ∀ v ∈ news', v.oneCell' = true) (hl : news.length = m * szOf C.P e) (hb : (l + m) * bytesOfT C.P e ≤ 1099511627776) (hb2 : l + m ≤ 1099511627776)
    (hs : VR ι (.slice (some ⟨b, off, none⟩) l cap) s')
    (h : appendSome C σ e (szOf C.P e) b off l cap m news = some (u, σ')) : ∃ ι' v' w', (Builtin.append_ ts ty #[s', x']).run C.P w = .ok v' w' ∧ Moved C w0 ι σ w ι' σ' w' ∧ VR ι' u v' := by
  have hbm : m * bytesOfT C.P e ≤ 1099511627776 := Nat.le_trans (Nat.mul_le_mul_right _ (by omega)) hb
  unfold appendSome at h
  split at h
  · -- nothing is appended
    split at h
    · rename_i hle
      have hle := Nat.le_of_ble_eq_true hle
      cases h
      have hnil : news' = [] := by have := hv.length; rw [hl] at this; simpa using this.symm
      subst hnil
      have stay : ∀ r o cap', l ≤ cap' → s' = .slice (some ⟨r, o, none⟩) l cap' → ∃ ι' v' w', (Builtin.append_ ts ty #[s', x']).run C.P w = .ok v' w' ∧ Moved C w0 ι σ w ι' σ w' ∧ VR ι' (.slice (some ⟨b, off, none⟩) l cap) v' := by
        rintro r o cap' hcap rfl
        have := run_append_stay (ty := ty) (l := l) (cap := cap') (base := some ⟨r, o, none⟩) ht0 ht hz hn hbm (by simpa using hcap) (w' := w) rfl
        exact ⟨ι, _, _, by simpa using this, .refl hS, hs⟩
      cases hs with
      | atom h => simp [atomic] at h
      | slice ha hc => exact stay _ _ _ hle rfl
      | oslice hL hc => exact stay _ _ _ (by omega) rfl
      | eslice hL => exact stay _ _ _ (Nat.le_refl 0) rfl
      | zslice hL => exact stay _ _ _ (Nat.le_refl 0) rfl
    · cases h
  · rename_i hm0
    have hm : 0 < m := Nat.pos_of_ne_zero hm0
    split at h
    · -- the capacity is known
      rename_i hcap
      have hcap := lt_unk hcap
      unfold appendKnown at h
      split at h
      · rename_i hle
        have hle : l + m ≤ cap := Nat.le_of_ble_eq_true hle
        split at h
        · rename_i σ1 hw1
          cases h
          cases hs with
          | atom h => simp [atomic] at h
          | @slice _ _ r o _ _ ha hc =>
            obtain ⟨w', e1, e2⟩ := write_rel hS hw1 (ha.shift (l * szOf C.P e)) hv h1
            have := run_append_stay (ty := ty) (l := l) (cap := cap) (base := some ⟨r, o, none⟩) ht0 ht hz hn hbm hle (w' := w') (by simpa [add_none] using e1)
            exact ⟨ι, _, _, this, e2, .slice ha hc⟩
          | oslice hL hc => omega
          | eslice hL => omega
          | zslice hL => omega
        · cases h
      · rename_i hle
        have hle : cap < l + m := by
          have : ¬ l + m ≤ cap := fun e => by rw [show (Nat.add l m).ble cap = true from Nat.ble_eq_true_of_le e] at hle; cases hle
          omega
        split at h
        · rename_i old hold
          simp only [freshRow] at h
          cases h
          obtain ⟨old', o1, o2⟩ := src_rel hS hold hs (fun k hk => by simp [lenL] at hk; omega)
          have hol : old.length = l * szOf C.P e := by
            simp only [srcCells] at hold
            split at hold
            · rename_i hb0; cases hold; simpa using (Nat.eq_of_beq_eq_true hb0).symm
            · split at hold
              · exact (readCells_spec _ _ _ _ hold).1
              · cases hold
          have key : ∀ r o cap', cap' < l + m → s' = .slice (some ⟨r, o, none⟩) l cap' → ∃ ι' v' w', (Builtin.append_ ts ty #[s', x']).run C.P w = .ok v' w' ∧ Moved C w0 ι σ w ι' (σ.new (.orow e (old ++ news).length (rowT (old ++ news)))) w' ∧ VR ι' (.slice (some ⟨Nat.mul 2 σ.next, 0, none⟩) (l + m) UNK) v' := by
            rintro r o cap' hc' rfl
            have := run_append_more (ty := ty) (l := l) (cap := cap') (base := some ⟨r, o, none⟩) ht0 ht hz hzv hn hb hb2 hc' o2
            obtain ⟨k1, k2⟩ := fresh_rel (z := z) (cap := cap') (m := l + m) hS (o1.append hv) hzs (by simp [hol, hl, Nat.add_mul]) hb2 (w' := w.drew.alloc (.cells ((old' ++ news').toArray ++ Builtin.zeroCells z.cells (grownCap w (l + m) cap' e - (l + m))) e)) (Grown.drew_alloc w _)
            exact ⟨_, _, _, by rw [this]; simp, k1, k2⟩
          cases hs with
          | atom h => simp [atomic] at h
          | slice ha hc => exact key _ _ _ hle rfl
          | oslice hL hc => omega
          | eslice hL => omega
          | zslice hL => exact key _ _ _ (by omega) rfl
        · cases h
    · -- the capacity is open
      rename_i hcap
      have hcap := not_lt_unk hcap
      unfold appendOpen at h
      split at h
      · rename_i hoff
        have hoff : off = (cap - UNK) * szOf C.P e := Nat.eq_of_beq_eq_true hoff
        split at h
        · rename_i e' n' c' hmine
          obtain ⟨hb', hf', hg'⟩ := mine_spec hmine
          obtain ⟨b2, rfl⟩ : ∃ b2, b = 2 * b2 := ⟨b / 2, nmod2_true hb'⟩
          rw [show 2 * b2 / 2 = b2 from by omega] at hg' hf'
          rw [show Nat.div (2 * b2) 2 = b2 from by show 2 * b2 / 2 = b2; omega] at h
          split at h
          · rename_i hee
            obtain rfl : e' = e := Nat.eq_of_beq_eq_true hee
            split at h
            · rename_i old hold
              simp only [freshRow] at h
              cases h
              obtain ⟨old', o1, o2⟩ := src_rel hS hold hs (fun k hk => by simp [lenL] at hk; omega)
              have hol : old.length = l * szOf C.P e' := by
                simp only [srcCells] at hold
                split at hold
                · rename_i hb0; cases hold; simpa using (Nat.eq_of_beq_eq_true hb0).symm
                · split at hold
                  · exact (readCells_spec _ _ _ _ hold).1
                  · cases hold
              obtain ⟨Lb, ro, g1, g2, g3⟩ := hS.live _ _ hg'
              -- it grows: the old block is struck, a new one laid
              have grow : ∀ r o cap', cap' < l + m → s' = .slice (some ⟨r, o, none⟩) l cap' → ∃ ι' v' w', (Builtin.append_ ts ty #[s', x']).run C.P w = .ok v' w' ∧
                  Moved C w0 ι σ w ι' ((σ.put b2 none).new (.orow e' (old ++ news).length (rowT (old ++ news)))) w' ∧ VR ι' (.slice (some ⟨Nat.mul 2 σ.next, 0, none⟩) (l + m) UNK) v' := by
                rintro r o cap' hc' rfl
                have hk := moved_put hS hg' g1 hf' (by simp) none (fun o' ho' => by cases ho') (Turned.self g2)
                have := run_append_more (ty := ty) (l := l) (cap := cap') (base := some ⟨r, o, none⟩) ht0 ht hz hzv hn hb hb2 hc' o2
                obtain ⟨k1, k2⟩ := fresh_rel (z := z) (cap := cap') (m := l + m) hk.sim (o1.append hv) hzs (by simp [hol, hl, Nat.add_mul]) hb2 (w' := w.drew.alloc (.cells ((old' ++ news').toArray ++ Builtin.zeroCells z.cells (grownCap w (l + m) cap' e' - (l + m))) e')) (Grown.drew_alloc w _)
                exact ⟨_, _, _, by rw [this]; simp, hk.trans k1, k2⟩
              rcases hs.slice_inv with ⟨r, o, he, hlt, _⟩ | ⟨b3, L, lo, hb3, hlo, hL, hc, he⟩ | ⟨b3, L, lo, r, o, hb3, hlo, hl0, hL, he⟩ | ⟨b3, L, r, o, hb3, hc0, hl0, hL, he⟩
              · omega
              · obtain rfl : b2 = b3 := by omega
                have hLL : L = Lb := Option.some.inj (hL.symm.trans g1)
                subst hLL
                subst hlo he
                by_cases hfit : l + m ≤ L.cap - lo
                · -- it grows in its place
                  cases g3 with
                  | @orow _ n _ cs hn' hcs hmx hcc =>
                    have hoff' : off = lo * szOf C.P e' := by simpa using hoff
                    have hlen : (off + L.sh + l * szOf C.P e') + news'.length ≤ cs.toList.length := by
                      rw [← hv.length, hl, hoff']
                      have : (lo + l + m) * szOf C.P e' ≤ L.cap * szOf C.P e' := Nat.mul_le_mul_right _ (by omega)
                      simp only [Nat.add_mul] at this
                      simp; omega
                    have hst := run_storeCells_at C.P L.r (off + L.sh + l * szOf C.P e') e' news' 0 cs w g2 (by simpa using hlen) h1
                    have hrun := run_append_stay (ty := ty) (l := l) (cap := L.cap - lo) (base := some ⟨L.r, off + L.sh, none⟩) ht0 ht hz hn hbm hfit (by show (storeCells ((⟨L.r, off + L.sh, none⟩ : Addr).add (l * szOf C.P e')) news').run C.P w = _; rw [add_none]; exact hst)
                    rw [Nat.add_zero] at hrun
                    have hsz := splice_size cs.toList (off + L.sh + l * szOf C.P e') news' hlen
                    have hm := moved_over (L' := ⟨L.r, L.sh + off, L.cap - lo⟩) (o' := .orow e' (old ++ news).length (rowT (old ++ news))) hS hg' hL hf' (by simp) rfl ?_ (turned_setRow w L.r cs (cs.toList.take (off + L.sh + l * szOf C.P e') ++ news' ++ cs.toList.drop (off + L.sh + l * szOf C.P e' + news'.length)).toArray e' g2)
                    · refine ⟨_, _, _, hrun, by simpa using hm, ?_⟩
                      have := VR.oslice (ι := ι.add σ.next ⟨L.r, L.sh + off, L.cap - lo⟩) (off := 0) (l := l + m) (lo := 0) (Inj.add_same _ _ _) (by simpa using hfit)
                      show VR _ (.slice (some ⟨2 * σ.next, 0, none⟩) (l + m) UNK) _
                      simpa [Nat.add_comm] using this
                    · refine .orow ?_ ?_ (Nat.le_trans (Nat.sub_le _ _) hmx) fun i v hi => ?_
                      · simp only [List.size_toArray, hsz, List.length_append, hol, hl]
                        rw [← hv.length, hl] at hlen
                        omega
                      · simp only [List.size_toArray, hsz]
                        have : (lo + (L.cap - lo)) * szOf C.P e' = L.cap * szOf C.P e' := by congr 1; omega
                        simp only [Nat.add_mul] at this
                        simp; omega
                      · have hi := get_rowT _ _ _ hi
                        have hsp := splice_get cs.toList (off + L.sh + l * szOf C.P e') news' hlen (i + (L.sh + off))
                        rw [List.getElem?_append] at hi
                        split at hi
                        · rename_i hlt
                          rw [hol] at hlt
                          rw [if_pos (by omega)] at hsp
                          have hrd : readCells c' off (l * szOf C.P e') = some old := by
                            simp only [srcCells] at hold
                            split at hold
                            · rename_i hb0
                              have := Nat.eq_of_beq_eq_true hb0
                              have : l * szOf C.P e' = 0 := this
                              omega
                            · simpa [rowOf, hb', show Nat.div (2 * b2) 2 = b2 from by show 2 * b2 / 2 = b2; omega, hg'] using hold
                          obtain ⟨v2, z1, z2⟩ := hcc _ _ ((readCells_spec _ _ _ _ hrd).2 i v hi)
                          refine ⟨v2, ?_, z2.mono (Inj.add_le hS.next_none)⟩
                          rw [List.getElem?_toArray, hsp, Array.getElem?_toList, show i + (L.sh + off) = off + i + L.sh from by omega]
                          exact z1
                        · rename_i hge
                          obtain ⟨v', q1, q2⟩ := hv.get hi
                          refine ⟨v', ?_, q2.mono (Inj.add_le hS.next_none)⟩
                          have hk : i - old.length < news'.length := (List.getElem?_eq_some_iff.1 q1).1
                          rw [hol] at hge hk q1
                          rw [if_neg (by omega), if_pos (by omega)] at hsp
                          rw [List.getElem?_toArray, hsp, ← q1]
                          congr 1; omega
                · obtain ⟨ι', v', w', a1, a2, a3⟩ := grow _ _ _ (by omega) rfl
                  exact ⟨ι', v', w', a1, a2, a3⟩
              · subst hl0 he
                exact grow _ _ _ (by omega) rfl
              · simp [hc0, UNK] at hcap
            · cases h
          · cases h
        · cases h
      · cases h

theorem allOne_of {l : List Value} (h : ∀ v ∈ l, oneC v = true) : allOne l = true := by
  induction l with
  | nil => rfl
  | cons a l ih => simp only [allOne, h a (List.mem_cons_self)]; exact ih fun v hv => h v (List.mem_cons_of_mem _ hv)
theorem allOne_repeat {z : List Value} (h : allOne z = true) (n : Nat) : allOne (repeatCells z n) = true := by
  refine allOne_of fun v hv => ?_
  induction n with
  | zero => cases hv
  | succ n ih =>
    simp only [repeatCells, List.mem_append] at hv
    rcases hv with hv | hv
    · exact allOne_mem h v hv
    · exact ih hv
theorem append_sound {env : Env} {a : Act} {o : Oper} {xs : Array Operand} {ts : Array TypeId} {l : List (Value × LS)} {args : List Value} (ho : o.op = .call { callee := .builtin .append, args := xs, argTypes := ts }) (hS : Sim C w0 ι σ w) (_hE : EnvR ι env a.tmps)
    (hargs : VL ι args (xs.toList.map a.eval)) (h : one (appendL C σ ts args) = some l) (hK : Goal C w0 ι σ w l K) : UponV C.P K ((execOp a.eval o).run C.P w) := by
  simp only [one] at h
  split at h
  · rename_i r hr
    cases h
    unfold appendL at hr
    split at hr
    · rename_i s x
      obtain ⟨s', x', he⟩ : ∃ s' x', xs.toList.map a.eval = [s', x'] := by
        have := hargs.length
        match xs.toList.map a.eval, this with
        | [s', x'], _ => exact ⟨s', x', rfl⟩
      rw [he] at hargs
      cases hargs with
      | cons hs hrest =>
      cases hrest with
      | cons hx hnil =>
      have hxs : xs.map a.eval = #[s', x'] := by apply Array.ext'; simpa using he
      split at hr
      · rename_i t u hts
        have hts' : ts = #[t, u] := by apply Array.ext'; simpa using hts
        subst hts'
        split at hr
        · rename_i e ht
          have ht0 : (#[t, u] : Array TypeId)[0]? = some t := rfl
          have ht1 : (#[t, u] : Array TypeId)[1]? = some u := rfl
          have run_eq : ∀ ty v' w', (Builtin.append_ #[t, u] ty #[s', x']).run C.P w = .ok v' w' → (o.type = ty) → K v' w' → UponV C.P K ((execOp a.eval o).run C.P w) := by
            rintro ty v' w' hrun rfl hk
            simp only [execOp, ho, resolve, Sem.run_bind, Sem.run_pure, Result.andThen_ok, invoke, builtin, hxs, hrun]
            exact hk
          have core : ∀ z m news news', (∀ w', (zeroValue e).run C.P w' = .ok z w') → z.cells.size = szOf C.P e → szOf C.P e ≠ 0 → NewsAt C.P #[t, u] e x' m news' w → VL ι news news' → allOne news = true →
              appendCells C σ e (szOf C.P e) s m news = some r → UponV C.P K ((execOp a.eval o).run C.P w) := by
            intro z m news news' hzv hzs hz hn hv h1 hc
            have h1 := hv.one h1
            unfold appendCells at hc
            split at hc
            · rename_i hlen
              have hlen : news.length = m * szOf C.P e := Nat.eq_of_beq_eq_true hlen
              split at hc
              · split at hc
                · rename_i hsm
                  obtain ⟨b1, b2⟩ := smallLen_spec hsm
                  have : s' = .slice none 0 0 := hs.flat_eq rfl
                  subst this
                  obtain ⟨ι', v', w', k1, k2, k3⟩ := append_nil_rel (ty := o.type) hS ht0 ht hz hzv hzs hn hv hlen b1 b2 hc
                  exact run_eq _ _ _ k1 rfl (hK.one k2 k3)
                · cases hc
              · split at hc
                · rename_i hsm
                  obtain ⟨b1, b2⟩ := smallLen_spec hsm
                  obtain ⟨ι', v', w', k1, k2, k3⟩ := append_some_rel (ty := o.type) hS ht0 ht hz hzv hzs hn hv h1 hlen b1 b2 hs hc
                  exact run_eq _ _ _ k1 rfl (hK.one k2 k3)
                · cases hc
              · cases hc
            · cases hc
          split at hr
          · rename_i k hui
            split at hr
            · rename_i kk n
              unfold appendMany at hr
              split at hr
              · rename_i z hz
                obtain ⟨hzf, hzr⟩ := zeroOf_spec hz
                split at hr
                · rename_i n
                  split at hr
                  · cases hr
                  · rename_i hsz
                    split at hr
                    · rename_i hc
                      simp only [Bool.and_eq_true] at hc
                      obtain ⟨⟨⟨c1, c2⟩, c3⟩, c4⟩ := hc
                      have c1 : n ≤ 16777216 := Nat.le_of_ble_eq_true c1
                      have c2 : 0 < n := by simpa [Nat.blt_eq] using c2
                      have c3 := Nat.eq_of_beq_eq_true c3
                      have hzs : z.cells.size = szOf C.P e := by rw [← c3, ← cells_toList]; simp
                      have hx' : x' = .int kk (n : Int) := hx.flat_eq rfl
                      refine core z n _ (repeatCells z.cells.toList n) hzr hzs hsz (.inr ⟨u, k, kk, z, ht1, hui, hx', c2, c1, hzr, rfl, hzs⟩) ?_ ?_ hr
                      · rw [cells_toList]; exact VL.repeat (VL.of_flat hzf) n
                      · exact allOne_repeat c4 n
                    · cases hr
                · cases hr
              · cases hr
            · cases hr
          · rename_i d hd hud
            unfold appendFrom at hr
            split at hr
            · cases hr
            · rename_i hsz
              split at hr
              · rename_i z hz
                obtain ⟨hzf, hzr⟩ := zeroOf_spec hz
                split at hr
                · rename_i m hm
                  split at hr
                  · rename_i news hsrc
                    split at hr
                    · rename_i hc
                      simp only [Bool.and_eq_true] at hc
                      have hzs : z.cells.size = szOf C.P e := by rw [← Nat.eq_of_beq_eq_true hc.2, ← cells_toList]; simp
                      obtain ⟨news', n1, n2⟩ := src_rel hS hsrc hx (fun k hk => by rw [hm] at hk; cases hk; exact Nat.le_refl _)
                      exact core z m news news' hzr hzs hsz (.inl ⟨u, ht1, ⟨d, hud, hd⟩, fun w' => len_rel hm hx C.P w', n2⟩) n1 hc.1 hr
                    · cases hr
                  · cases hr
                · cases hr
              · cases hr
          · cases hr
        · cases hr
      · cases hr
    · cases hr
  · cases h
end
end Sd
