import Derived.Test.YtfklihbkflblmaaGreatDoorSdOps11
set_option linter.all false
namespace Sd
open Go Go.RowKit
section
variable {C : Ctx} {w0 : World} {ι : Inj} {σ : LS} {w : World} {K : Value → World → Prop}

theorem numTok_int {v v' : Value} (h : numTok v = true) (hv : VR ι v v') : ∃ n, v' = .int .i64 n := by
  unfold numTok at h
  split at h
  · exact hv.tok_int
  · rename_i n; exact ⟨n, hv.flat_eq rfl⟩
  · cases h
theorem cmp_bool {op : BinOp} (h : isCmp op = true) (m n : Int) : ∃ b, fastBin op (.int .i64 m) (.int .i64 n) = some (.bool b) := by
  cases op
  case eql => exact ⟨_, rfl⟩
  case neq => exact ⟨_, rfl⟩
  case lss => exact ⟨_, rfl⟩
  case leq => exact ⟨_, rfl⟩
  case gtr => exact ⟨_, rfl⟩
  case geq => exact ⟨_, rfl⟩
  all_goals cases h
theorem tokBin_sound {a : Act} {o : Oper} {op : BinOp} {t : TypeId} {x y : Operand} {p : TypeId} {v u : Value} {l : List (Value × LS)} (ho : o.op = .binOp op t x y p) (hS : Sim C w0 ι σ w)
    (hx : VR ι v (a.eval x)) (hy : VR ι u (a.eval y)) (h : tokBin op v u σ = some l) (hK : Goal C w0 ι σ w l K) : UponV C.P K ((execOp a.eval o).run C.P w) := by
  unfold tokBin at h
  split at h
  · rename_i hc
    cases h
    simp only [Bool.and_eq_true] at hc
    obtain ⟨m, hm⟩ := numTok_int hc.1.2 hx
    obtain ⟨n, hn⟩ := numTok_int hc.2 hy
    obtain ⟨b, hb⟩ := cmp_bool hc.1.1 m n
    obtain ⟨h1, h2, h3, h4⟩ := fastBin_run (P := C.P) (w := w) t hb
    simp only [execOp, ho]
    have hg : guardFree (a.eval x) (a.eval y) = true := by rw [hm, hn]; rfl
    refine upon_val (v' := .bool b) (w' := w) ?_ (hK (.bool b) σ (by cases b <;> simp) ι _ w (.refl hS) (.of_flat rfl))
    rw [Sem.run_bind, eqGuard_free op t x y hg, Result.andThen_ok, hm, hn, h1]
  · cases h
theorem binOp_sound {env : Env} {a : Act} {o : Oper} {op : BinOp} {t : TypeId} {x y : Operand} {p : TypeId} {l : List (Value × LS)} (ho : o.op = .binOp op t x y p) (hS : Sim C w0 ι σ w) (hE : EnvR ι env a.tmps)
    (h : binOpOp C o env op t x y σ = some l) (hK : Goal C w0 ι σ w l K) : UponV C.P K ((execOp a.eval o).run C.P w) := by
  unfold binOpOp at h
  split at h
  · rename_i v hv
    split at h
    · rename_i u hu
      have hx := hE.eval hv
      have hy := hE.eval hu
      split at h
      · rename_i r hr
        cases h
        obtain ⟨h1, h2, h3, h4⟩ := fastBin_run (P := C.P) (w := w) t hr
        rw [← hx.flat_eq h3, ← hy.flat_eq h4] at h1
        have hg : guardFree (a.eval x) (a.eval y) = true := by
          rw [hx.flat_eq h3, hy.flat_eq h4]
          unfold fastBin at hr
          split at hr
          · rfl
          · cases hr
        simp only [execOp, ho]
        refine upon_val (v' := r) (w' := w) ?_ (hK.same hS (.of_flat h2))
        rw [Sem.run_bind, eqGuard_free op t x y hg, Result.andThen_ok, h1]
      · unfold binSlow at h
        split at h
        · rename_i hf
          simp only [Bool.and_eq_true] at hf
          refine pureOp_sound hS hE ?_ (by simp [ho]) h hK
          simp [flatOps, ho, Op.operands, hv, hu, hf]
        · simp only [execOp, ho]
          split at h
          · split at h
            · rename_i b hb
              cases h
              obtain ⟨h1, h2, h3, h4⟩ := cmpNil_rel hb hx hy 9999
              refine upon_val (v' := .bool b) (w' := w) ?_ (hK.same hS (.of_flat rfl))
              rw [Sem.run_bind, eqGuard_free _ t x y h4, Result.andThen_ok, binOp_eql t h2 h3, equalIn_eq]
              simp [h1]
            · cases h
          · split at h
            · rename_i b hb
              cases h
              obtain ⟨h1, h2, h3, h4⟩ := cmpNil_rel hb hx hy 9999
              refine upon_val (v' := .bool (!b)) (w' := w) ?_ (hK.same hS (.of_flat rfl))
              rw [Sem.run_bind, eqGuard_free _ t x y h4, Result.andThen_ok, binOp_neq t h2 h3, equalIn_eq]
              simp [h1]
            · cases h
          · cases h
    · cases h
  · cases h
theorem unOp_sound {env : Env} {a : Act} {o : Oper} {op : UnOp} {t : TypeId} {x : Operand} {l : List (Value × LS)} (ho : o.op = .unOp op t x) (hS : Sim C w0 ι σ w) (hE : EnvR ι env a.tmps)
    (h : unOpOp C o env x σ = some l) (hK : Goal C w0 ι σ w l K) : UponV C.P K ((execOp a.eval o).run C.P w) := by
  unfold unOpOp at h
  split at h
  · rename_i v hv
    exact pureIf_sound hS hE (fun hf => by simp [flatOps, ho, Op.operands, hv, hf]) (by simp [ho]) h hK
  · cases h

/-! ### convert -/
theorem row_shape (hS : Sim C w0 ι σ w) {b : Nat} {e : TypeId} {n : Nat} {cc : T Value} {L : Loc} (hs : σ.heap.get (b / 2) = some (.row e n cc)) (hL : ι (b / 2) = some L) : L.sh = 0 ∧ w.shape? L.r = some (e, n) := by
  obtain ⟨L', ro, h1, h2, h3⟩ := hS.live _ _ hs
  rw [hL] at h1; cases h1
  cases h3 with
  | row hsh hn hcc => exact ⟨hsh, by simp [World.shape?, h2, hn]⟩
theorem seenAt_row {P : Program} {w : World} {r o : Nat} {sh : TypeId × Nat} (h : w.shape? r = some sh) : (Conv.seenAt ⟨r, o, none⟩).run P w = .ok ⟨r, o, none⟩ w := by
  simp [Conv.seenAt, viewAt, h]
theorem convert_rel (hS : Sim C w0 ι σ w) {s d : TypeId} {x x' v : Value} (h : convertL C σ s d x = some v) (hx : VR ι x x') : ∃ v', (convert s d x').run C.P w = .ok v' w ∧ VR ι v v' := by
  unfold convertL at h
  split at h
  · rename_i hd
    split at h
    · rename_i e hs
      split at h
      · rename_i he
        unfold strM at h
        split at h
        · rename_i str hb
          cases h
          refine ⟨.string str, ?_, .of_flat rfl⟩
          have hrun := run_bytes_of hS hb hx
          rcases sliceBytes_rel hS hb hx with ⟨rfl, _⟩ | ⟨ad, len, cap, ns, rfl, _⟩
          · rw [run_convert_bytes_string w s d e _ _ _ hs he hd]; exact hrun
          · rw [run_convert_bytes_string w s d e _ _ _ hs he hd]; exact hrun
        · cases h
      · cases h
    · cases h
  · rename_i hd
    split at h
    · rename_i t hs
      split at h
      · rename_i b off
        split at h
        · rename_i e n cc hse
          obtain ⟨hb, hg⟩ := seen_spec hse
          split at h
          · cases h
          · rename_i hz
            split at h
            · rename_i hlt
              cases h
              have hlt : off < n := by rw [← Nat.blt_eq]; exact hlt
              obtain ⟨L, hL, rfl⟩ := iter_rel hx hb
              obtain ⟨hsh, hshape⟩ := row_shape hS hg hL
              refine ⟨_, ?_, hx⟩
              simp [convert, run_underlying hs, run_underlying hd, Conv.unsafePointer, seenAt_row hshape, cellsIn, hshape, run_sizeOf hz, hsh]
              intro hor
              rcases hor with h | h
              · exact absurd h hz
              · omega
            · cases h
        · cases h
      · cases h
    · cases h
  · rename_i u hd
    split at h
    · rename_i hs
      split at h
      · rename_i b off
        split at h
        · rename_i e n cc hse
          obtain ⟨hb, hg⟩ := seen_spec hse
          split at h
          · cases h
          · rename_i hz
            split at h
            · rename_i hlies
              cases h
              obtain ⟨L, hL, rfl⟩ := iter_rel hx hb
              obtain ⟨hsh, hshape⟩ := row_shape hS hg hL
              refine ⟨_, ?_, hx⟩
              simp [convert, run_underlying hs, run_underlying hd, Conv.unsafePointer, seenAt_row hshape, variablesAt, hshape, run_sizeOf hz, hsh, hlies]
            · cases h
        · cases h
      · cases h
    · cases h
  · cases h
theorem convert_sound {env : Env} {a : Act} {o : Oper} {s d : TypeId} {x : Operand} {l : List (Value × LS)} (ho : o.op = .convert s d x) (hS : Sim C w0 ι σ w) (hE : EnvR ι env a.tmps)
    (h : convertOp C o env s d x σ = some l) (hK : Goal C w0 ι σ w l K) : UponV C.P K ((execOp a.eval o).run C.P w) := by
  unfold convertOp at h
  split at h
  · rename_i v hv
    split at h
    · rename_i hf
      exact pureOp_sound hS hE (by simp [flatOps, ho, Op.operands, hv, hf]) (by simp [ho]) h hK
    · obtain ⟨u, hu, rfl⟩ := okm_spec h
      obtain ⟨v', h1, h2⟩ := convert_rel hS hu (hE.eval hv)
      simp only [execOp, ho]
      exact upon_val h1 (hK.same hS h2)
  · cases h
end
end Sd
