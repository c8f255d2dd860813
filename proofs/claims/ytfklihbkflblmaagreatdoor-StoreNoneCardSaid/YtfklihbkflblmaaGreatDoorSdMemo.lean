import Derived.Test.YtfklihbkflblmaaGreatDoorSdExt
set_option linter.all false
namespace Sd
open Go Go.RowKit

/-! ## Calls that are known: each is run once -/
structure MemoE where
  f : FuncId
  args : List Value
  v : Value
def veqs : List Value → List Value → Bool
  | [], [] => true
  | a :: l, b :: m => match veq a b with | true => veqs l m | false => false
  | _, _ => false
theorem veqs_eq : ∀ {l m : List Value}, veqs l m = true → l = m := by
  intro l
  induction l with
  | nil => intro m h; cases m with | nil => rfl | cons => cases h
  | cons a l ih =>
    intro m h
    cases m with
    | nil => cases h
    | cons b m =>
      simp only [veqs] at h
      split at h
      · rename_i h1; rw [veq_eq h1, ih h]
      · cases h
def memoOf : List MemoE → FuncId → List Value → Option Value
  | [], _, _ => none
  | e :: rest, f, args => match Nat.beq e.f f with
    | true => match veqs e.args args with
      | true => some e.v
      | false => memoOf rest f args
    | false => memoOf rest f args
theorem memoOf_mem : ∀ {tab : List MemoE} {f : FuncId} {args : List Value} {v : Value}, memoOf tab f args = some v → ∃ e ∈ tab, e.f = f ∧ e.args = args ∧ e.v = v := by
  intro tab
  induction tab with
  | nil => intro f args v h; cases h
  | cons e rest ih =>
    intro f args v h
    simp only [memoOf] at h
    split at h
    · rename_i hf
      split at h
      · rename_i ha
        cases h
        exact ⟨e, List.mem_cons_self, Nat.eq_of_beq_eq_true hf, veqs_eq ha, rfl⟩
      · obtain ⟨e', h1, h2⟩ := ih h
        exact ⟨e', List.mem_cons_of_mem _ h1, h2⟩
    · obtain ⟨e', h1, h2⟩ := ih h
      exact ⟨e', List.mem_cons_of_mem _ h1, h2⟩

/-- a program, its tables, and what is known of it -/
structure Base where
  P : Program
  ro : Nat → Option (T Value)
  ext : FuncId → Option Ext
  quiet : FuncId → Bool
noncomputable def ctx (B : Base) (tab : List MemoE) : Ctx := ⟨B.P, B.ro, B.ext, B.quiet, memoOf tab⟩
structure BaseOK (B : Base) : Prop where
  ext : ∀ tab, ExtFacts (ctx B tab)
  mixed : B.P.follows .mixedOrders = true
  names : NamesOK B.P
def Fact (B : Base) (e : MemoE) : Prop :=
  (∃ fn, B.P.funcs[e.f]? = some fn ∧ fn.body.isSome = true) ∧ ∀ w, RoOK (ctx B []) w → Calls B.P e.f e.args.toArray w fun en w' => en = .returned e.v ∧ Below w.heap.size w w'
def Facts (B : Base) (tab : List MemoE) : Prop := ∀ e ∈ tab, Fact B e
theorem Facts.nil (B : Base) : Facts B [] := fun _ h => by cases h
theorem Facts.memo {B : Base} {tab : List MemoE} (h : Facts B tab) : MemoOK (ctx B tab) := by
  intro f args v hv
  have hm : memoOf tab f args = some v := by
    unfold memoAt at hv
    split at hv
    · rename_i u hu
      split at hv
      · cases hv; exact hu
      · cases hv
    · cases hv
  obtain ⟨e, he, rfl, rfl, rfl⟩ := memoOf_mem hm
  exact ⟨(h e he).1, fun w hw => (h e he).2 w hw⟩

def allAre (v : Value) : List (Value × LS) → Bool
  | [] => true
  | (u, _) :: l => match veq2 u v with | true => allAre v l | false => false
where
  veq2 (u v : Value) : Bool := match u with
    | .tuple a => match v with
      | .tuple b => veqs a.toList b.toList
      | _ => false
    | u => veq u v
theorem veq2_eq {u v : Value} (h : allAre.veq2 u v = true) : u = v := by
  unfold allAre.veq2 at h
  split at h
  · split at h
    · have := veqs_eq h
      rw [Array.toList_inj.1 this]
    · cases h
  · exact veq_eq h
theorem allAre_mem {v : Value} : ∀ {l : List (Value × LS)}, allAre v l = true → ∀ r ∈ l, r.1 = v := by
  intro l
  induction l with
  | nil => intro _ r hr; cases hr
  | cons x l ih =>
    intro h r hr
    obtain ⟨u, σ⟩ := x
    simp only [allAre] at h
    split at h
    · rename_i h1
      rcases List.mem_cons.1 hr with rfl | hr
      · exact veq2_eq h1
      · exact ih h r hr
    · cases h
/-- the run of a call from an empty heap ends with this value, whatever is drawn -/
noncomputable def runsTo (B : Base) (tab : List MemoE) (f : FuncId) (args : List Value) (v : Value) : Bool :=
  match B.P.funcs[f]? with
  | some fn => match fn.body with
    | some _ => match flat2 v with
      | true => match evCall (ctx B tab) 100000 100 (.func f) args LS.empty with
        | some l => allAre v l
        | none => false
      | false => false
    | none => false
  | none => false

section
variable {B : Base} {tab : List MemoE}
theorem sim_empty {C : Ctx} {w0 : World} (hro : RoOK C w0) : Sim C w0 (fun _ => none) LS.empty w0 := by
  refine ⟨Below.refl _ _, fun b L h => (by cases h), fun b o h => ?_, fun b b' o o' L L' h => ?_, hro, Nat.le_refl _⟩
  · rw [show LS.empty.heap = T.full heapDepth from rfl, get_full] at h; cases h
  · rw [show LS.empty.heap = T.full heapDepth from rfl, get_full] at h; cases h
/-- such a run, with arguments that are alike -/
theorem calls_of_run (hB : BaseOK B) (hT : Facts B tab) {f : FuncId} {args args' : List Value} {v : Value} (h : runsTo B tab f args v = true) {w : World} (hro : RoOK (ctx B []) w) (ha : VL (fun _ => none) args args') :
    Calls B.P f args'.toArray w fun en w' => en = .returned v ∧ Below w.heap.size w w' := by
  unfold runsTo at h
  split at h
  · rename_i fn hf
    split at h
    · rename_i c hb
      split at h
      · rename_i hv
        split at h
        · rename_i l hl
          have hcall := (evCall_sound (C := ctx B tab) (w0 := w) (ext_sound (hB.ext tab)) hT.memo (fun _ hC => draw_sound hC) hB.mixed hB.names 100000 100).func
            (K := fun v' w' => v' = v ∧ Below w.heap.size w w') (sim_empty (C := ctx B tab) hro) ha hl
            (fun u σ' hm ι' v' w' hmv hu => by
              have e := allAre_mem h _ hm
              simp only at e
              subst e
              exact ⟨hu.flat2_eq hv, hmv.sim.below⟩)
          rw [callFunc_enter (P := (ctx B tab).P) hB.names hf (by rw [hb]; rfl)] at hcall
          have hcall' : Calls B.P f args'.toArray w (fun e w'' => ∃ u, e = .returned u ∧ (u = v ∧ Below w.heap.size w w'')) := hcall
          refine Calls.mono hcall' ?_
          rintro e w' ⟨u, rfl, rfl, hb⟩
          exact ⟨rfl, hb⟩
        · cases h
      · cases h
    · cases h
  · cases h
theorem fact_of_run (hB : BaseOK B) (hT : Facts B tab) {f : FuncId} {args : List Value} {v : Value} (ha : allFlat args = true) (h : runsTo B tab f args v = true) : Fact B ⟨f, args, v⟩ := by
  refine ⟨?_, fun w hw => calls_of_run hB hT h hw (allFlat_VL ha)⟩
  unfold runsTo at h
  split at h
  · rename_i fn hf
    split at h
    · rename_i c hb
      exact ⟨fn, hf, by rw [hb]; rfl⟩
    · cases h
  · cases h
theorem Facts.step (hB : BaseOK B) (hT : Facts B tab) {f : FuncId} {args : List Value} {v : Value} (ha : allFlat args = true) (h : runsTo B tab f args v = true) : Facts B (⟨f, args, v⟩ :: tab) := by
  intro e he
  rcases List.mem_cons.1 he with rfl | he
  · exact fact_of_run hB hT ha h
  · exact hT e he
end
end Sd
