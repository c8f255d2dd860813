import Derived.Test.YtfklihbkflblmaaGreatDoorSdOps9
import Derived.Laws.Bits64
import Derived.Laws.BitsAllLaws
set_option linter.all false
namespace Sd
open Go Go.RowKit
section
variable {C : Ctx} {w0 : World} {ι : Inj} {σ : LS} {w : World} {K : Value → World → Prop}

/-! ### whole numbers -/
theorem ltI_eq (x y : Int) : ltI x y = decide (x < y) := by
  cases x with
  | ofNat a => cases y with
    | ofNat b =>
      rw [Bool.eq_iff_iff]
      simp [ltI]
    | negSucc b => simp [ltI]; omega
  | negSucc a => cases y with
    | ofNat b => simp [ltI]; omega
    | negSucc b =>
      rw [Bool.eq_iff_iff]
      simp [ltI]
      omega
theorem eqI_eq (x y : Int) : eqI x y = (x == y) := by
  rw [Bool.eq_iff_iff]
  cases x with
  | ofNat a => cases y with
    | ofNat b => simp [eqI]; omega
    | negSucc b => simp [eqI]
  | negSucc a => cases y with
    | ofNat b => simp [eqI]
    | negSucc b => simp [eqI]
theorem wrapF_eq (k : IntKind) (n : Int) : wrapF k n = k.wrap n := by
  unfold wrapF
  split
  · rename_i m
    split
    · split
      · rename_i h
        have : m < 9223372036854775808 := by rw [← Nat.blt_eq]; exact h
        exact (IntWalk.i64_in _ (by simp; omega)).symm
      · rfl
    · rw [IntKind.wrap_u32']; show Int.ofNat (m % 4294967296) = _; simp
    · rw [IntKind.wrap_u8']; show Int.ofNat (m % 256) = _; simp
    · rw [IntKind.wrap_u64]; show Int.ofNat (m % 18446744073709551616) = _; simp
    · rfl
  · rfl
theorem kindNo_inj {k k' : IntKind} (h : Nat.beq (kindNo k) (kindNo k') = true) : k = k' := by
  cases k <;> cases k' <;> first | rfl | (simp [kindNo] at h)
theorem ofInt_nat (n m : Nat) : BitVec.ofInt n (Int.ofNat m) = BitVec.ofNat n m := by
  apply BitVec.eq_of_toNat_eq
  simp
theorem bits2_run {P : Program} {w : World} {f : Nat → Nat → Nat} {op : BinOp} {k : IntKind} {x y : Int} {r : Value} (h : bits2 f k x y = some r)
    (hop : ∀ m n : Nat, m < 2 ^ k.bits → n < 2 ^ k.bits → f m n < 2 ^ k.bits)
    (hr : Op.intBits op k x y = pure (.int k (k.wrap ((f (BitVec.ofInt k.bits x).toNat (BitVec.ofInt k.bits y).toNat : Nat) : Int)))) : (Op.intBits op k x y).run P w = .ok r w ∧ flat r = true := by
  unfold bits2 at h
  split at h
  · rename_i q hq
    split at h
    · rename_i m
      split at h
      · rename_i n
        cases h
        rw [hr]
        refine ⟨?_, rfl⟩
        rw [Sem.run_pure, ofInt_nat, ofInt_nat, BitVec.toNat_ofNat, BitVec.toNat_ofNat]
        have hk : q = 2 ^ k.bits ∧ ∀ z : Nat, z < 2 ^ k.bits → k.wrap (z : Int) = (z : Int) := by
          cases k <;> simp [modulus] at hq <;> subst hq
          · exact ⟨rfl, fun z hz => IntWalk.u8_in _ (by have : z < 256 := hz; omega)⟩
          · exact ⟨rfl, fun z hz => IntWalk.u32_in _ (by have : z < 4294967296 := hz; omega)⟩
          · exact ⟨rfl, fun z hz => IntWalk.u64_in _ (by have : z < 18446744073709551616 := hz; omega)⟩
        obtain ⟨rfl, hw⟩ := hk
        rw [hw _ (hop _ _ (Nat.mod_lt _ (Nat.two_pow_pos _)) (Nat.mod_lt _ (Nat.two_pow_pos _)))]
        rfl
      · cases h
    · cases h
  · cases h
def intOp (op : BinOp) (k : IntKind) (x y : Int) : Sem Value :=
  match op with
  | .add | .sub | .mul => Op.intArith op k x y
  | .quo | .rem => Op.intDiv op k x y
  | .and | .or | .xor | .andNot => Op.intBits op k x y
  | _ => Op.intCmp op x y
theorem binOp_int {op : BinOp} {k : IntKind} {x y : Int} (t : TypeId) (h1 : op ≠ .shl) (h2 : op ≠ .shr) : binOp op t (.int k x) (.int k y) = intOp op k x y := by
  cases op <;> first | exact absurd rfl h1 | exact absurd rfl h2 | simp [binOp, intOp]
theorem fastInt_run {P : Program} {w : World} {op : BinOp} {k : IntKind} {x y : Int} {r : Value} (t : TypeId) (h : fastInt op k x y = some r) (h1 : op ≠ .shl) (h2 : op ≠ .shr) : (binOp op t (.int k x) (.int k y)).run P w = .ok r w ∧ flat r = true := by
  rw [binOp_int t h1 h2]
  clear h1 h2
  cases op <;> simp only [fastInt] at h <;> first | cases h | skip
  all_goals unfold intOp
  · exact ⟨by rw [wrapF_eq]; rfl, rfl⟩
  · exact ⟨by rw [wrapF_eq]; rfl, rfl⟩
  · exact ⟨by rw [wrapF_eq]; rfl, rfl⟩
  · -- quo
    unfold quoF at h
    split at h
    · rename_i m
      split at h
      · rename_i s
        cases h
        refine ⟨?_, rfl⟩
        simp only [Op.intDiv]
        rw [if_neg (by simp; omega), wrapF_eq]
        rfl
      · cases h
    · cases h
  · -- rem
    unfold remF at h
    split at h
    · rename_i m
      split at h
      · rename_i s
        cases h
        refine ⟨?_, rfl⟩
        simp only [Op.intDiv]
        rw [if_neg (by simp; omega)]
        rfl
      · cases h
    · cases h
  · exact bits2_run h (fun m n h1 h2 => Nat.and_lt_two_pow _ h2) (by simp [Op.intBits])
  · exact bits2_run h (fun m n h1 h2 => Nat.or_lt_two_pow h1 h2) (by simp [Op.intBits])
  · exact bits2_run h (fun m n h1 h2 => Nat.xor_lt_two_pow h1 h2) (by simp [Op.intBits])
  · exact ⟨by rw [eqI_eq]; rfl, rfl⟩
  · exact ⟨by rw [eqI_eq]; rfl, rfl⟩
  · exact ⟨by rw [ltI_eq]; rfl, rfl⟩
  · exact ⟨by rw [ltI_eq]; simp only [Op.intCmp, Sem.run_pure]; congr 2; rw [Bool.eq_iff_iff]; simp, rfl⟩
  · exact ⟨by rw [ltI_eq]; simp [Op.intCmp], rfl⟩
  · exact ⟨by rw [ltI_eq]; simp only [Op.intCmp, Sem.run_pure]; congr 2; rw [Bool.eq_iff_iff]; simp, rfl⟩
theorem shrF_run {P : Program} {w : World} {k k' : IntKind} {x y : Int} {r : Value} (h : shrF k x y = some r) : (Op.shift .shr k x k' y).run P w = .ok r w ∧ flat r = true := by
  unfold shrF at h
  split at h
  · rename_i m
    split at h
    · rename_i s
      split at h
      · rename_i hs
        have hs : s ≤ k.bits := Nat.le_of_ble_eq_true hs
        cases h
        refine ⟨?_, rfl⟩
        simp only [Op.shift]
        rw [if_neg (by simp)]
        simp only [Sem.run_pure, show (Int.ofNat s).toNat = s from rfl, Nat.min_eq_left hs]
        congr 2
        rw [show ((2 : Int) ^ s) = Int.ofNat (2 ^ s) from by simp]
        exact (Int.ofNat_fdiv m (2 ^ s)).symm
      · cases h
    · cases h
  · cases h
theorem fastBin_run {P : Program} {w : World} {op : BinOp} {u v r : Value} (t : TypeId) (h : fastBin op u v = some r) : (binOp op t u v).run P w = .ok r w ∧ flat r = true ∧ flat u = true ∧ flat v = true := by
  unfold fastBin at h
  split at h
  · rename_i k x
    split at h
    · rename_i k' y
      split at h
      · have := shrF_run (P := P) (w := w) (k' := k') h
        refine ⟨?_, this.2, rfl, rfl⟩
        simp only [binOp]; exact this.1
      · cases h
      · rename_i h1 h2
        split at h
        · rename_i hk
          have hk := kindNo_inj hk
          subst hk
          have := fastInt_run (P := P) (w := w) t h (fun e => h2 e) (fun e => h1 e)
          exact ⟨this.1, this.2, rfl, rfl⟩
        · cases h
    · cases h
  · cases h
end
end Sd
