import Derived.Test.YtfklihbkflblmaaGreatDoorSdOps3
import Derived.Laws.Append
set_option linter.all false
namespace Sd
open Go Go.RowKit
section
variable {C : Ctx} {w0 : World} {ι : Inj} {σ : LS} {w : World} {K : Value → World → Prop}

theorem lt_unk {n : Nat} (h : Nat.blt n UNK = true) : n < UNK := by simpa [Nat.blt_eq] using h
theorem not_lt_unk {n : Nat} (h : Nat.blt n UNK = false) : UNK ≤ n := by
  have : ¬ n < UNK := fun e => by rw [show Nat.blt n UNK = true from by simpa [Nat.blt_eq] using e] at h; cases h
  omega
/-- the bounds of a slice expression -/
inductive BR (d : Nat) : Option Value → Nat → Prop where
  | none : BR d none d
  | some {k : IntKind} {i : Nat} : BR d (some (.int k (i : Int))) i
theorem bound_rel {env : Env} {a : Act} (hE : EnvR ι env a.tmps) {d : Nat} {x : Option Operand} {i : Nat} (h : bound env d x = some i) : BR d (x.map a.eval) i := by
  cases x with
  | none => simp [bound] at h; subst h; exact .none
  | some x =>
    simp only [bound] at h
    split at h
    · rename_i k n hv
      cases h
      have : a.eval x = .int k (Int.ofNat i) := (hE.eval hv).flat_eq rfl
      simp only [Option.map_some, this]
      exact .some
    · cases h
theorem run_sliceBound {P : Program} {k : IntKind} {i y : Nat} (code : BoundsCode) (h : i ≤ y) (w : World) : (Instr.sliceBound (.int k (i : Int)) y code).run P w = .ok i w := by
  have : (0 : Int) ≤ (i : Int) ∧ (i : Int) ≤ (y : Int) := by omega
  simp [Instr.sliceBound, asIntOf, this]
theorem run_sliceBounds2 {P : Program} (s : Bool) {len cap l h : Nat} {lo hi : Option Value} (hl : BR 0 lo l) (hh : BR len hi h) (h1 : l ≤ h) (h2 : h ≤ cap) (w : World) :
    (Instr.sliceBounds s len cap lo hi none).run P w = .ok (l, h, cap) w := by
  cases hl <;> cases hh <;> simp [Instr.sliceBounds, run_sliceBound, h1, h2]
theorem run_sliceBounds3 {P : Program} (s : Bool) {len cap l h m : Nat} {lo hi : Option Value} {mx : Value} (hl : BR 0 lo l) (hh : BR len hi h) (hm : BR 0 (some mx) m) (hs : hi.isSome = true) (h1 : l ≤ h) (h2 : h ≤ m) (h3 : m ≤ cap) (w : World) :
    (Instr.sliceBounds s len cap lo hi (some mx)).run P w = .ok (l, h, m) w := by
  cases hl <;> cases hh <;> cases hm <;> simp_all [Instr.sliceBounds, run_sliceBound]

theorem le3_spec {a b c : Nat} (h : le3 a b c = true) : a ≤ b ∧ b ≤ c := by
  simp only [le3, Bool.and_eq_true] at h
  exact ⟨Nat.le_of_ble_eq_true h.1, Nat.le_of_ble_eq_true h.2⟩
theorem cut_eq (sz b off l h m : Nat) : cutAt sz b off l h m = .slice (some ⟨b, if m = l then off else off + l * sz, none⟩) (h - l) (m - l) := by
  unfold cutAt
  congr 3
  cases hb : Nat.beq m l with
  | true => simp [Nat.eq_of_beq_eq_true hb]
  | false =>
    have : m ≠ l := fun e => by subst e; simp at hb
    simp [this]
theorem ar_cut {b off r o l m sz : Nat} (ha : AR ι b off r o) : AR ι b (if m = l then off else off + l * sz) r (if m = l then o else o + l * sz) := by
  split
  · exact ha
  · exact ha.shift _
theorem addr_cut (r o l m sz : Nat) : (if m = l then (⟨r, o, none⟩ : Addr) else (⟨r, o, none⟩ : Addr).add (l * sz)) = ⟨r, if m = l then o else o + l * sz, none⟩ := by
  split <;> simp [add_none]
theorem sliceArr_rel {env : Env} {a : Act} (hE : EnvR ι env a.tmps) {t e : TypeId} {n b off r o : Nat} {lo hi mx : Option Operand} {v : Value} (hu : C.P.underlying t = some (.array n e)) (hz : szOf C.P e ≠ 0)
    (h : sliceArr env n (szOf C.P e) b off lo hi mx = some v) (ha : AR ι b off r o) (w : World) :
    ∃ v', (Instr.sliceAt t (.pointer (some ⟨r, o, none⟩)) (lo.map a.eval) (hi.map a.eval) (mx.map a.eval)).run C.P w = .ok v' w ∧ VR ι v v' := by
  unfold sliceArr at h
  split at h
  · rename_i l hl
    split at h
    · rename_i hh hhi
      split at h
      · split at h
        · rename_i hc
          simp only [Bool.and_eq_true] at hc
          obtain ⟨h1, h2⟩ := le3_spec hc.1
          have h3 := lt_unk hc.2
          cases h
          rw [cut_eq]
          refine ⟨_, ?_, .slice (ar_cut ha) (by omega)⟩
          simp only [Instr.sliceAt, Sem.run_bind, run_underlying hu, Result.andThen_ok, Instr.sureAddr, Sem.run_pure, Option.map_none, run_sliceBounds2 false (bound_rel hE hl) (bound_rel hE hhi) h1 h2, run_sizeOf hz, addr_cut]
        · cases h
      · cases h
    · cases h
  · cases h
theorem sliceSl_rel {env : Env} {a : Act} (hE : EnvR ι env a.tmps) {t e : TypeId} {b off len cap : Nat} {x' : Value} {lo hi mx : Option Operand} {v : Value} (hu : C.P.underlying t = some (.slice e)) (hz : szOf C.P e ≠ 0)
    (h : sliceSl env (szOf C.P e) b off len cap lo hi mx = some v) (hx : VR ι (.slice (some ⟨b, off, none⟩) len cap) x') (w : World) :
    ∃ v', (Instr.sliceAt t x' (lo.map a.eval) (hi.map a.eval) (mx.map a.eval)).run C.P w = .ok v' w ∧ VR ι v v' := by
  unfold sliceSl at h
  split at h
  · rename_i l hl
    split at h
    · rename_i hh hhi
      have bl := bound_rel hE hl
      have bh := bound_rel hE hhi
      split at h
      · -- no maximum
        split at h
        · rename_i hcap
          have hcap := lt_unk hcap
          split at h
          · rename_i hc
            obtain ⟨h1, h2⟩ := le3_spec hc
            cases h
            rw [cut_eq]
            cases hx with
            | atom h => simp [atomic] at h
            | slice ha _ =>
              rename_i r o
              refine ⟨_, ?_, .slice (ar_cut ha) (by omega)⟩
              simp only [Instr.sliceAt, Sem.run_bind, run_underlying hu, Result.andThen_ok, Instr.slice, Option.map_none, run_sliceBounds2 true bl bh h1 h2, run_sizeOf hz, Sem.run_pure, Option.map_some, ← addr_cut]
              split <;> rfl
            | oslice => exact absurd hcap (by omega)
            | eslice => exact absurd hcap (by omega)
            | @zslice b off r o L hL =>
              obtain rfl : hh = 0 := by omega
              obtain rfl : l = 0 := by omega
              refine ⟨.slice (some ⟨r, o, none⟩) 0 0, ?_, by simpa using VR.zslice (off := off) hL⟩
              simp only [Instr.sliceAt, Sem.run_bind, run_underlying hu, Result.andThen_ok, Instr.slice, Option.map_none, run_sliceBounds2 true bl bh h1 h2, run_sizeOf hz, Sem.run_pure]
              simp
          · cases h
        · rename_i hcap
          have hcap := not_lt_unk hcap
          split at h
          · rename_i hc
            obtain ⟨h1, h2⟩ := le3_spec hc
            cases h
            cases hx with
            | atom h => simp [atomic] at h
            | slice ha hlt => omega
            | @oslice b off _ lo' L hL hlo =>
              have hb2 := run_sliceBounds2 (P := C.P) true bl bh h1 (show hh ≤ L.cap - lo' by omega) w
              by_cases hm : L.cap - lo' = l
              · obtain rfl : hh = l := by omega
                refine ⟨.slice (some ⟨L.r, off + L.sh, none⟩) 0 0, ?_, ?_⟩
                · simp only [Instr.sliceAt, Sem.run_bind, run_underlying hu, Result.andThen_ok, Instr.slice, Option.map_none, hb2, run_sizeOf hz, Sem.run_pure]
                  simp [hm]
                · simpa [Nat.add_assoc] using VR.eslice (ι := ι) (off := off + hh * szOf C.P e) (lo := lo' + hh) (r := L.r) (o := off + L.sh) hL
              · refine ⟨.slice (some ⟨L.r, off + L.sh + l * szOf C.P e, none⟩) (hh - l) (L.cap - lo' - l), ?_, ?_⟩
                · simp only [Instr.sliceAt, Sem.run_bind, run_underlying hu, Result.andThen_ok, Instr.slice, Option.map_none, hb2, run_sizeOf hz, Sem.run_pure]
                  simp [hm, add_none]
                · have := VR.oslice (ι := ι) (off := off + l * szOf C.P e) (l := hh - l) (lo := lo' + l) hL (by omega)
                  rw [show off + l * szOf C.P e + L.sh = off + L.sh + l * szOf C.P e from by omega, show L.cap - (lo' + l) = L.cap - lo' - l from by omega] at this
                  simpa [Nat.add_assoc] using this
            | @eslice b off lo' r o L hL =>
              obtain rfl : hh = 0 := by omega
              obtain rfl : l = 0 := by omega
              refine ⟨.slice (some ⟨r, o, none⟩) 0 0, ?_, by simpa using VR.eslice (ι := ι) (off := off) (lo := lo') hL⟩
              simp only [Instr.sliceAt, Sem.run_bind, run_underlying hu, Result.andThen_ok, Instr.slice, Option.map_none, run_sliceBounds2 true bl bh h1 (Nat.le_refl 0), run_sizeOf hz, Sem.run_pure]
              simp
            | zslice => simp [UNK] at hcap
          · cases h
      · -- a maximum
        rename_i mxo
        split at h
        · cases h
        · rename_i hio
          split at h
          · rename_i m hm
            split at h
            · rename_i hc
              simp only [Bool.and_eq_true] at hc
              obtain ⟨h1, h2⟩ := le3_spec hc.1.1.1
              have h3 : m ≤ len := Nat.le_of_ble_eq_true hc.1.1.2
              have h4 := lt_unk hc.1.2
              have hmc : m ≤ cap := Nat.le_of_ble_eq_true hc.2
              cases h
              rw [cut_eq]
              have bm := bound_rel hE hm
              simp only [Option.map_some] at bm bh ⊢
              cases hx with
              | atom h => simp [atomic] at h
              | @slice _ _ r o _ _ ha hlt =>
                refine ⟨_, ?_, .slice (ar_cut ha) (by omega)⟩
                simp only [Instr.sliceAt, Sem.run_bind, run_underlying hu, Result.andThen_ok, Instr.slice, run_sliceBounds3 true bl bh bm rfl h1 h2 hmc, run_sizeOf hz, Sem.run_pure, Option.map_some, ← addr_cut]
                split <;> rfl
              | @oslice b off _ lo' L hL hlo =>
                refine ⟨_, ?_, .slice (ar_cut (.own _ _ _ hL)) (by omega)⟩
                simp only [Instr.sliceAt, Sem.run_bind, run_underlying hu, Result.andThen_ok, Instr.slice, run_sliceBounds3 true bl bh bm rfl h1 h2 (show m ≤ L.cap - lo' by omega), run_sizeOf hz, Sem.run_pure, Option.map_some, ← addr_cut]
                split <;> rfl
              | @eslice b off lo' r o L hL =>
                obtain rfl : m = 0 := by omega
                obtain rfl : hh = 0 := by omega
                obtain rfl : l = 0 := by omega
                refine ⟨.slice (some ⟨r, o, none⟩) 0 0, ?_, by simpa using VR.zslice (off := off) hL⟩
                simp only [Instr.sliceAt, Sem.run_bind, run_underlying hu, Result.andThen_ok, Instr.slice, run_sliceBounds3 true bl bh bm rfl h1 (Nat.le_refl 0) (Nat.le_refl 0), run_sizeOf hz, Sem.run_pure]
                simp
              | @zslice b off r o L hL =>
                obtain rfl : m = 0 := by omega
                obtain rfl : hh = 0 := by omega
                obtain rfl : l = 0 := by omega
                refine ⟨.slice (some ⟨r, o, none⟩) 0 0, ?_, by simpa using VR.zslice (off := off) hL⟩
                simp only [Instr.sliceAt, Sem.run_bind, run_underlying hu, Result.andThen_ok, Instr.slice, run_sliceBounds3 true bl bh bm rfl h1 (Nat.le_refl 0) (Nat.le_refl 0), run_sizeOf hz, Sem.run_pure]
                simp
            · cases h
          · cases h
    · cases h
  · cases h
theorem sliceOp_sound {env : Env} {a : Act} {o : Oper} {t : TypeId} {x : Operand} {lo hi mx : Option Operand} {l : List (Value × LS)} (ho : o.op = .slice t x lo hi mx) (hS : Sim C w0 ι σ w) (hE : EnvR ι env a.tmps)
    (h : sliceOp C o env t x lo hi mx σ = some l) (hK : Goal C w0 ι σ w l K) : UponV C.P K ((execOp a.eval o).run C.P w) := by
  simp only [sliceOp] at h
  split at h
  · rename_i v hx
    split at h
    · simp only [pureIf] at h
      split at h
      · rename_i hf
        exact pureOp_sound hS hE hf (by simp [ho]) h hK
      · cases h
    · simp only [okm] at h
      split at h
      · rename_i u hs
        cases h
        simp only [execOp, ho]
        have hv := hE.eval hx
        generalize a.eval x = x' at hv ⊢
        unfold sliceL at hs
        split at hs
        · rename_i n e hu
          split at hs
          · rename_i b off
            split at hs
            · cases hs
            · rename_i hz
              cases hv with
              | atom h => simp [atomic] at h
              | ptr ha =>
                obtain ⟨v', h1, h2⟩ := sliceArr_rel hE hu hz hs ha w
                exact upon_val h1 (hK.same hS h2)
          · cases hs
        · rename_i e hu
          split at hs
          · split at hs
            · cases hs
            · rename_i hz
              obtain ⟨v', h1, h2⟩ := sliceSl_rel hE hu hz hs hv w
              exact upon_val h1 (hK.same hS h2)
          · cases hs
        · cases hs
      · cases h
  · cases h
end
end Sd
