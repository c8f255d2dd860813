import Derived.Test.YtfklihbkflblmaaGreatDoorSdOps8
import Derived.Laws.BytesString
import Derived.Lib.UnsafeStr
set_option linter.all false
namespace Sd
open Go Go.RowKit
section
variable {C : Ctx} {w0 : World} {ι : Inj} {σ : LS} {w : World} {K : Value → World → Prop}

/-! ### bytes -/
theorem bytesL_atoms {l : List Value} {s : List UInt8} (h : bytesL l = some s) : ∃ ns : List Int, l = ns.map (Value.int .u8) ∧ s = ns.map fun n => UInt8.ofNat n.toNat := by
  induction l generalizing s with
  | nil => simp [bytesL] at h; subst h; exact ⟨[], rfl, rfl⟩
  | cons v l ih =>
    unfold bytesL at h
    split at h
    · cases ‹v :: l = []›
    · rename_i n cs he
      cases he
      split at h
      · rename_i s' hs
        cases h
        obtain ⟨ns, h1, h2⟩ := ih hs
        exact ⟨n :: ns, by rw [h1]; rfl, by rw [h2]; rfl⟩
      · cases h
    · cases h
theorem VL.ints_eq {ns : List Int} {l' : List Value} (h : VL ι (ns.map (Value.int .u8)) l') : l' = ns.map (Value.int .u8) := by
  induction ns generalizing l' with
  | nil => cases h; rfl
  | cons n ns ih =>
    cases h with
    | cons h t => rw [ih t, h.flat_eq rfl]; rfl
theorem foldl_push (ns : List Int) : ∀ (s : ByteArray), ns.foldl (fun r n => r.push (UInt8.ofNat n.toNat)) s = ⟨s.data ++ (ns.map fun n => UInt8.ofNat n.toNat).toArray⟩ := by
  induction ns with
  | nil => intro s; apply ByteArray.ext; simp
  | cons n ns ih => intro s; rw [List.foldl_cons, ih]; apply ByteArray.ext; simp [ByteArray.push]
theorem sliceBytes_rel (hS : Sim C w0 ι σ w) {x x' : Value} {s : ByteArray} (h : sliceBytes C σ x = some s) (hx : VR ι x x') :
    (x' = .slice none 0 0 ∧ s = ⟨#[]⟩) ∨ ∃ ad len cap, ∃ ns : List Int, x' = .slice (some ad) len cap ∧ (loadCells ad len).run C.P w = .ok (ns.map (Value.int .u8)).toArray w ∧ s = ⟨(ns.map fun n => UInt8.ofNat n.toNat).toArray⟩ := by
  unfold sliceBytes at h
  split at h
  · cases h
    cases hx with
    | atom h => left; unfold atomic at h; split at h <;> simp_all
  · rename_i b off len cap
    right
    have zero : ∀ r o cap', len = 0 → ∃ ad len' cap'', ∃ ns : List Int, (.slice (some ⟨r, o, none⟩) 0 cap' : Value) = .slice (some ad) len' cap'' ∧ (loadCells ad len').run C.P w = .ok (ns.map (Value.int .u8)).toArray w ∧ s = ⟨(ns.map fun n => UInt8.ofNat n.toNat).toArray⟩ := by
      intro r o cap' hl
      subst hl
      cases h
      exact ⟨_, _, _, [], rfl, by simp [loadCells, loadCellsFrom], rfl⟩
    have key : ∀ r o len' cap', AR ι b off r o → len' = len → ∃ ad len'' cap'', ∃ ns : List Int, (.slice (some ⟨r, o, none⟩) len' cap' : Value) = .slice (some ad) len'' cap'' ∧ (loadCells ad len'').run C.P w = .ok (ns.map (Value.int .u8)).toArray w ∧ s = ⟨(ns.map fun n => UInt8.ofNat n.toNat).toArray⟩ := by
      intro r o len' cap' ha hl
      subst hl
      by_cases h0 : len' = 0
      · subst h0; exact zero r o cap' rfl
      · split at h
        · exact absurd rfl h0
        · split at h
          · rename_i c hc
            split at h
            · rename_i l hl
              split at h
              · rename_i s' hs
                cases h
                obtain ⟨l', e1, e2, e3, e4⟩ := run_loadCells_rel hS hc ha hl
                obtain ⟨ns, rfl, rfl⟩ := bytesL_atoms hs
                rw [e1.ints_eq] at e4
                exact ⟨_, _, _, ns, rfl, e4, rfl⟩
              · cases h
            · cases h
          · cases h
    cases hx with
    | atom h => simp [atomic] at h
    | slice ha hc => exact key _ _ _ _ ha rfl
    | oslice hL hc => exact key _ _ _ _ (.own _ _ _ hL) rfl
    | eslice hL => exact zero _ _ _ rfl
    | zslice hL => exact zero _ _ _ rfl
  · cases h
theorem run_bytes_of (hS : Sim C w0 ι σ w) {x x' : Value} {s : ByteArray} (h : sliceBytes C σ x = some s) (hx : VR ι x x') : (Conv.bytesToString x').run C.P w = .ok (.string s) w := by
  rcases sliceBytes_rel hS h hx with ⟨rfl, rfl⟩ | ⟨ad, len, cap, ns, rfl, h1, rfl⟩
  · rfl
  · rw [run_bytesToString w ad len cap ns h1, foldl_push]
    simp [ByteArray.empty, ByteArray.emptyWithCapacity]
    rfl

/-! ### unsafe.String -/
theorem cellsOf_sz {P : Program} {t : TypeId} : P.cellsOf t = szOf P t := by
  unfold Program.cellsOf szOf
  cases P.info? t <;> rfl
theorem liesAt_own {P : Program} {e : TypeId} (hc : P.cellsOf e = 1) (count off n : Nat) (hn : off + n ≤ count) : liesAt P P.depth e count off e n = true := by
  have hd : P.depth = (2 * (P.types.size + Made.depth) + 1) + 1 := rfl
  rw [hd]
  simp only [liesAt, Bool.or_eq_true]
  left
  rw [hd]
  simp [rowAt, hc, hn, sameLayout, Nat.mod_one]
theorem turned_freeze {w : World} {r o n : Nat} {cs : Array Value} {e : TypeId} {fz : Nat × Nat} (h : w.heap[r]? = some (.cells cs e fz)) : ∃ ro, Turned w (w.freeze ⟨r, o, none⟩ n) r ro := by
  by_cases hn : n = 0
  · exact ⟨_, by simpa [World.freeze, hn] using Turned.self h⟩
  · refine ⟨.cells cs e (if fz.1 == fz.2 then (o, o + n) else (min fz.1 o, max fz.2 (o + n))), ⟨by simp [World.freeze, hn], ?_, fun k hk => ?_, by simp [World.freeze, hn], by simp [World.freeze, hn], by simp [World.freeze, hn]⟩⟩
    · obtain ⟨lo, hi⟩ := fz
      simp [World.freeze, hn, Array.getElem?_modify, h]
    · simp [World.freeze, hn, Array.getElem?_modify, Ne.symm hk]
theorem run_loadBytes_ints {P : Program} (w : World) : ∀ (ns : List Int) (a : Addr) (acc : ByteArray), (∀ j v, (ns.map (Value.int .u8))[j]? = some v → w.cell? (a.add j) = some v) →
    (loadBytes a acc ns.length).run P w = .ok ⟨acc.data ++ (ns.map fun n => UInt8.ofNat n.toNat).toArray⟩ w
  | [], a, acc, _ => by simp [loadBytes]
  | x :: l, a, acc, h => by
    have h0 : w.cell? a = some (.int .u8 x) := by
      have := h 0 (.int .u8 x) rfl
      simpa [Addr.add] using this
    have ih := run_loadBytes_ints (P := P) w l (a.add 1) (acc.push (UInt8.ofNat x.toNat)) (fun j y hy => by
      have := h (j + 1) y (by simpa using hy)
      have e : (a.add 1).add j = a.add (j + 1) := by
        unfold Addr.add
        by_cases hj : j = 0
        · subst hj; simp
        · simp [hj]; omega
      rw [e]; exact this)
    simp only [List.length_cons, loadBytes, Sem.run_bind, run_load, h0, Result.andThen]
    rw [show x.toNat.toUInt8 = UInt8.ofNat x.toNat from rfl, ih]
    congr 1
    apply ByteArray.ext
    simp [ByteArray.push]
theorem unsafeString_sound {a : Act} {o : Oper} {c : Call} {l : List (Value × LS)} {args : List Value} (ho : o.op = .call c) (hc : c.callee = .builtin .unsafeString) (hS : Sim C w0 ι σ w)
    (hargs : VL ι args (c.args.toList.map a.eval)) (h : one (unsafeStringL C σ c.argTypes args) = some l) (hK : Goal C w0 ι σ w l K) : UponV C.P K ((execOp a.eval o).run C.P w) := by
  obtain ⟨v, σ', hr, rfl⟩ := one_spec h
  unfold unsafeStringL at hr
  split at hr
  · rename_i p k n
    obtain ⟨p', x', he, hp, hx⟩ := args2 hargs
    have hx : x' = .int k (n : Int) := hx.flat_eq rfl
    subst hx
    split at hr
    · rename_i t ht0
      split at hr
      · rename_i u ht
        split at hr
        · cases hr
          have key : ∃ q, p' = .pointer q := by
            cases hp with
            | atom h => exact ⟨_, rfl⟩
            | ptr h => exact ⟨_, rfl⟩
          obtain ⟨q, rfl⟩ := key
          refine upon_builtin ho hc he (fun _ => rfl) (v' := .string ⟨#[]⟩) (w' := w) ?_ (hK.same hS (.of_flat rfl))
          cases q <;> (show Sem.run C.P (asInt _ >>= _) w = _; simp [asInt, asIntOf, ht0, show IntKind.i64.max = 9223372036854775807 from rfl]; try rfl)
        · rename_i hn0
          split at hr
          · rename_i b off
            unfold unsafeStr at hr
            split at hr
            · rename_i e m cc hm
              obtain ⟨hb, hf, hg⟩ := mine_spec hm
              obtain ⟨L, hL, rfl⟩ := iter_rel hp hb
              obtain ⟨L', ro, h1, h2, h3⟩ := hS.live _ _ hg
              rw [hL] at h1; cases h1
              split at hr
              · rename_i hcond
                simp only [Bool.and_eq_true] at hcond
                obtain ⟨⟨c1, c2⟩, c3⟩ := hcond
                have c1 := Nat.eq_of_beq_eq_true c1
                subst c1
                have c2 := Nat.eq_of_beq_eq_true c2
                have c3 : n ≤ 1099511627776 := Nat.le_of_ble_eq_true c3
                split at hr
                · rename_i vs hvs
                  split at hr
                  · rename_i s hs
                    cases hr
                    obtain ⟨ns, rfl, rfl⟩ := bytesL_atoms hs
                    obtain ⟨hlen, hcells⟩ := readCells_spec _ _ _ _ hvs
                    have hlen : ns.length = n := by simpa using hlen
                    cases h3 with
                    | orow hn hcap hmx hcc =>
                      rename_i cs
                      have hcell : ∀ j v, (ns.map (Value.int .u8))[j]? = some v → cs[off + L.sh + j]? = some v := by
                        intro j v hj
                        obtain ⟨v', q1, q2⟩ := hcc _ _ (hcells j v hj)
                        have hv : v' = v := by
                          obtain ⟨x, _, rfl⟩ := List.mem_map.1 (List.mem_of_getElem? hj)
                          exact q2.flat_eq rfl
                        rw [← hv, ← q1]; congr 1; omega
                      have hcell' : ∀ j v, (ns.map (Value.int .u8))[j]? = some v → w.cell? ((⟨L.r, off + L.sh, none⟩ : Addr).add j) = some v := by
                        intro j v hj
                        rw [add_none]
                        simpa [World.cell?, h2] using hcell j v hj
                      have hfit : off + L.sh + n ≤ cs.size := by
                        have hn0 : n ≠ 0 := hn0
                        have : (ns.map (Value.int .u8))[n - 1]? ≠ none := by simp; omega
                        obtain ⟨v, hv⟩ := Option.ne_none_iff_exists'.1 this
                        have := (Array.getElem?_eq_some_iff.1 (hcell _ _ hv)).1
                        omega
                      have hlb := run_loadBytes_ints (P := C.P) w ns ⟨L.r, off + L.sh, none⟩ .empty hcell'
                      rw [hlen] at hlb
                      have hlies := liesAt_own (P := C.P) (e := e) (by rw [cellsOf_sz]; exact c2) (cs.size / C.P.cellsOf e) (off + L.sh) n (by rw [cellsOf_sz, c2]; simpa using hfit)
                      have hsh : w.shape? L.r = some (e, cs.size) := by simp [World.shape?, h2]
                      obtain ⟨ro', hfr⟩ := turned_freeze (o := off + L.sh) (n := n) h2
                      refine upon_builtin ho hc he (fun _ => rfl) (v' := .string ⟨⟨ns.map fun n => UInt8.ofNat n.toNat⟩⟩) (w' := w.freeze ⟨L.r, off + L.sh, none⟩ n) ?_
                        (hK.one (moved_put hS hg hL hf (by simp) none (fun o' ho' => by cases ho') hfr) (.of_flat rfl))
                      have h63 : ¬ (9223372036854775807 : Int) < (n : Int) := by omega
                      have hneg : ¬ ((n : Int) < 0) := by omega
                      show Sem.run C.P (asInt (.int k (n : Int)) >>= _) w = _
                      simp [asInt, asIntOf, ht0, show IntKind.i64.max = 9223372036854775807 from rfl, h63, hneg, show n ≠ 0 from hn0, variablesAt, hsh, elemOf, run_underlying ht, hlies, hlb]
                  · cases hr
                · cases hr
              · cases hr
            · cases hr
          · cases hr
      · cases hr
    · cases hr
  · cases hr
end
end Sd
