import Derived.Test.YtfklihbkflblmaaGreatDoorSdDraw3
set_option linter.all false
namespace Sd
open Go Go.RowKit
section
variable {C : Ctx} {call : CallF} {ops : Array Oper}

/-! ### bounds on ids -/
def Inj.lt (ι : Inj) (n : Nat) : Inj := fun b => if b < n then ι b else none
theorem lt_some {ι : Inj} {n b : Nat} {L : Loc} : ι.lt n b = some L ↔ b < n ∧ ι b = some L := by
  unfold Inj.lt
  split
  · rename_i h; exact ⟨fun e => ⟨h, e⟩, fun e => e.2⟩
  · rename_i h; exact ⟨fun e => (by cases e), fun e => absurd e.1 h⟩
theorem lt_mono {ι : Inj} {n m : Nat} (h : n ≤ m) : (ι.lt n).le (ι.lt m) := fun b L hb => by
  rw [lt_some] at hb ⊢
  exact ⟨Nat.lt_of_lt_of_le hb.1 h, hb.2⟩
theorem lt_le {ι ι' : Inj} {n : Nat} (h : ι.le ι') : (ι.lt n).le (ι'.lt n) := fun b L hb => by
  rw [lt_some] at hb ⊢
  exact ⟨hb.1, h _ _ hb.2⟩

theorem get_upd_other {α : Type} (t : T α) (x : α) : ∀ (n m : Nat), m ≠ n → (t.upd n x).get m = t.get m := by
  induction t with
  | nil => intro n m _; rfl
  | node l v r ihl ihr =>
    intro n m hne
    rcases n with _ | k
    · rw [upd_zero]
      rcases m with _ | j
      · exact absurd rfl hne
      · rcases Nat.mod_two_eq_zero_or_one j with hj | hj
        · rw [get_even _ _ _ _ hj, get_even _ _ _ _ hj]
        · rw [get_odd _ _ _ _ hj, get_odd _ _ _ _ hj]
    · rcases Nat.mod_two_eq_zero_or_one k with hk | hk
      · rw [upd_even _ _ _ _ _ hk]
        rcases m with _ | j
        · rfl
        · rcases Nat.mod_two_eq_zero_or_one j with hj | hj
          · rw [get_even _ _ _ _ hj, get_even _ _ _ _ hj]; exact ihl _ _ (by omega)
          · rw [get_odd _ _ _ _ hj, get_odd _ _ _ _ hj]
      · rw [upd_odd _ _ _ _ _ hk]
        rcases m with _ | j
        · rfl
        · rcases Nat.mod_two_eq_zero_or_one j with hj | hj
          · rw [get_even _ _ _ _ hj, get_even _ _ _ _ hj]
          · rw [get_odd _ _ _ _ hj, get_odd _ _ _ _ hj]; exact ihr _ _ (by omega)

/-! ### temporaries struck -/
noncomputable def clear : List Tmp → Env → Env
  | [], e => e
  | t :: l, e => clear l (e.set t none)
theorem clear_get : ∀ {U : List Tmp} {e : Env} {t : Tmp} {v : Value}, (clear U e).get t = some v → t ∉ U ∧ e.get t = some v := by
  intro U
  induction U with
  | nil => intro e t v h; exact ⟨by simp, h⟩
  | cons u U ih =>
    intro e t v h
    obtain ⟨h1, h2⟩ := ih h
    rcases get_set _ _ _ _ _ h2 with ⟨_, h3⟩ | ⟨h3, h4⟩
    · cases h3
    · exact ⟨by simp [h1, h3], h4⟩
theorem clear_other : ∀ {U : List Tmp} {e : Env} {t : Tmp}, t ∉ U → (clear U e).get t = e.get t := by
  intro U
  induction U with
  | nil => intro e t _; rfl
  | cons u U ih =>
    intro e t h
    simp only [List.mem_cons, not_or] at h
    rw [clear, ih h.2, get_set_other _ _ _ _ h.1]

/-! ### one operation of a line -/
theorem step1_spec {o : Oper} {env : Env} {σ σ' : LS} {v : Value} (h : step1 C call ops o env σ = some (v, σ')) :
    (wantedL ops env o = some false ∧ v = undef ∧ σ' = σ) ∨ (wantedL ops env o = some true ∧ evOp C call o env σ = some [(v, σ')] ∧ (isM o.op = true → σ.next ≤ σ'.next)) := by
  unfold step1 at h
  split at h
  · rename_i hw
    split at h
    · rename_i r hev
      split at h
      · rename_i hc
        cases h
        refine .inr ⟨hw, hev, fun hM => ?_⟩
        rw [hM] at hc
        exact Nat.le_of_ble_eq_true (by simpa using hc)
      · cases h
    · cases h
  · rename_i hw
    cases h
    exact .inl ⟨hw, rfl, rfl⟩
  · cases h
/-- what turns nothing leaves the heap, or lays one block -/
theorem step1_kind {o : Oper} {env : Env} {σ σ' : LS} {v : Value} (h : step1 C call ops o env σ = some (v, σ')) (hM : isM o.op = false) : σ' = σ ∨ ∃ ob, σ' = σ.new ob := by
  rcases step1_spec h with ⟨_, _, h1⟩ | ⟨_, hev, _⟩
  · exact .inl h1
  · by_cases hA : isA o.op = true
    · obtain ⟨v', ob, h1, _⟩ := state_lays hA σ _ hev
      right
      refine ⟨ob, ?_⟩
      simp only [List.cons.injEq, Prod.mk.injEq, and_true] at h1
      exact h1.2
    · left
      by_cases hL : isL o.op = true
      · obtain ⟨v', h1, _⟩ := state_looks hL σ _ hev
        simp only [List.cons.injEq, Prod.mk.injEq, and_true] at h1
        exact h1.2
      · obtain ⟨v', h1, _⟩ := state_plain hM (by simpa using hL) (by simpa using hA) σ _ hev
        simp only [List.cons.injEq, Prod.mk.injEq, and_true] at h1
        exact h1.2
theorem step1_next {o : Oper} {env : Env} {σ σ' : LS} {v : Value} (h : step1 C call ops o env σ = some (v, σ')) : σ.next ≤ σ'.next := by
  by_cases hM : isM o.op = true
  · rcases step1_spec h with ⟨_, _, h1⟩ | ⟨_, _, h1⟩
    · rw [h1]; exact Nat.le_refl _
    · exact h1 hM
  · rcases step1_kind h (by simpa using hM) with h1 | ⟨ob, h1⟩
    · rw [h1]; exact Nat.le_refl _
    · rw [h1]; exact Nat.le_succ _

/-! ### the line, operation by operation -/
inductive At (C : Ctx) (call : CallF) (ops : Array Oper) : List Nat → Env → LS → List Nat → Nat → Oper → Env → LS → Value → LS → Prop where
  | here {i : Nat} {rest : List Nat} {env : Env} {σ σ' : LS} {o : Oper} {v : Value} (ho : ops[i]? = some o) (hs : step1 C call ops o env σ = some (v, σ')) : At C call ops (i :: rest) env σ [] i o env σ v σ'
  | there {j : Nat} {rest pre : List Nat} {env e : Env} {σ σ1 τ τ' : LS} {oj o : Oper} {u v : Value} {i : Nat} (ho : ops[j]? = some oj) (hs : step1 C call ops oj env σ = some (u, σ1))
      (t : At C call ops rest (putD env oj.dst u) σ1 pre i o e τ v τ') : At C call ops (j :: rest) env σ (j :: pre) i o e τ v τ'

section at_
variable {π pre : List Nat} {env e : Env} {σ τ τ' : LS} {i : Nat} {o : Oper} {v : Value}
theorem At.op (h : At C call ops π env σ pre i o e τ v τ') : ops[i]? = some o := by
  induction h with
  | here ho _ => exact ho
  | there _ _ _ ih => exact ih
theorem At.step (h : At C call ops π env σ pre i o e τ v τ') : step1 C call ops o e τ = some (v, τ') := by
  induction h with
  | here _ hs => exact hs
  | there _ _ _ ih => exact ih
theorem At.split (h : At C call ops π env σ pre i o e τ v τ') : ∃ rest, π = pre ++ i :: rest := by
  induction h with
  | here _ _ => exact ⟨_, rfl⟩
  | there _ _ _ ih => obtain ⟨rest, rfl⟩ := ih; exact ⟨rest, rfl⟩
theorem At.next (h : At C call ops π env σ pre i o e τ v τ') : σ.next ≤ τ.next := by
  induction h with
  | here _ _ => exact Nat.le_refl _
  | there _ hs _ ih => exact Nat.le_trans (step1_next hs) ih
theorem At.next' (h : At C call ops π env σ pre i o e τ v τ') : τ.next ≤ τ'.next := step1_next h.step
theorem At.unique {pre2 : List Nat} {o2 : Oper} {e2 : Env} {τ2 τ2' : LS} {v2 : Value} (h : At C call ops π env σ pre i o e τ v τ') (hn : π.Nodup) (k : At C call ops π env σ pre2 i o2 e2 τ2 v2 τ2') :
    pre2 = pre ∧ o2 = o ∧ e2 = e ∧ τ2 = τ ∧ v2 = v ∧ τ2' = τ' := by
  induction h generalizing pre2 with
  | here ho hs =>
    cases k with
    | here ho2 hs2 =>
      rw [ho] at ho2; cases ho2
      rw [hs] at hs2; cases hs2
      exact ⟨rfl, rfl, rfl, rfl, rfl, rfl⟩
    | there ho2 hs2 t =>
      obtain ⟨rest, hr⟩ := t.split
      rw [hr] at hn
      simp at hn
  | there ho hs t ih =>
    cases k with
    | here ho2 hs2 =>
      obtain ⟨rest, hr⟩ := t.split
      rw [hr] at hn
      simp at hn
    | there ho2 hs2 t2 =>
      rw [ho] at ho2; cases ho2
      rw [hs] at hs2; cases hs2
      obtain ⟨h1, h2⟩ := ih (List.nodup_cons.1 hn).2 t2
      exact ⟨by rw [h1], h2⟩
theorem putD_get {env : Env} {d : Option Tmp} {v x : Value} {t : Tmp} (h : (putD env d v).get t = some x) : (d = some t ∧ x = v) ∨ (d ≠ some t ∧ env.get t = some x) := by
  cases d with
  | none => exact .inr ⟨by simp, h⟩
  | some d =>
    rcases get_upd _ _ _ _ _ h with ⟨rfl, rfl, _⟩ | ⟨h1, h2⟩
    · exact .inl ⟨rfl, rfl⟩
    · exact .inr ⟨by simpa using Ne.symm h1, h2⟩
theorem putD_dom {env : Env} {d : Option Tmp} {v x : Value} {t : Tmp} (h : (putD env d v).get t = some x) : ∃ y, env.get t = some y := by
  cases d with
  | none => exact ⟨x, h⟩
  | some d =>
    rcases get_upd _ _ _ _ _ h with ⟨rfl, rfl, y, hy⟩ | ⟨h1, h2⟩
    · exact ⟨y, hy⟩
    · exact ⟨x, h2⟩
theorem At.dom (h : At C call ops π env σ pre i o e τ v τ') {t : Tmp} {x : Value} (hx : e.get t = some x) : ∃ y, env.get t = some y := by
  induction h generalizing x with
  | here _ _ => exact ⟨x, hx⟩
  | there _ _ _ ih => obtain ⟨y, hy⟩ := ih hx; exact putD_dom hy
/-- a temporary that nothing in front writes -/
theorem At.get0 (h : At C call ops π env σ pre i o e τ v τ') {t : Tmp} {x : Value} (hn : ∀ j ∈ pre, ∀ oj, ops[j]? = some oj → oj.dst ≠ some t) (hx : e.get t = some x) : env.get t = some x := by
  induction h with
  | here _ _ => exact hx
  | @there j rest pre env e σ σ1 τ τ' oj o u v i ho hs t ih =>
    have h1 := ih (fun k hk => hn k (List.mem_cons_of_mem _ hk)) hx
    rcases putD_get h1 with ⟨h2, _⟩ | ⟨_, h2⟩
    · exact absurd h2 (hn j List.mem_cons_self oj ho)
    · exact h2
/-- a temporary that one operation in front writes -/
theorem At.get1 (h : At C call ops π env σ pre i o e τ v τ') {t : Tmp} {x : Value} {j : Nat} {oj : Oper} (hj : j ∈ pre) (ho : ops[j]? = some oj) (hu : ∀ k ok, ops[k]? = some ok → ok.dst = some t → k = j) (hn : pre.Nodup) (hx : e.get t = some x) :
    ∃ prej ej τj vj τj', At C call ops π env σ prej j oj ej τj vj τj' ∧ (putD ej oj.dst vj).get t = some x ∧ τj'.next ≤ τ.next := by
  induction h with
  | here _ _ => cases hj
  | @there k rest pre env e σ σ1 τ τ' ok o u v i hok hs t' ih =>
    rcases List.mem_cons.1 hj with rfl | hj
    · rw [ho] at hok; cases hok
      refine ⟨[], _, _, _, _, .here ho hs, ?_, t'.next⟩
      refine t'.get0 (fun k hk ok hok hdk => ?_) hx
      have := hu k ok hok hdk
      subst this
      exact (List.nodup_cons.1 hn).1 hk
    · obtain ⟨prej, ej, τj, vj, τj', h1, h2, h3⟩ := ih hj (List.nodup_cons.1 hn).2 hx
      exact ⟨_, _, _, _, _, .there hok hs h1, h2, h3⟩
end at_

theorem line_cons {i : Nat} {rest : List Nat} {env envF : Env} {σ σF : LS} {st stF : List LS} (h : evLine C call ops (i :: rest) env σ st = some (envF, σF, stF)) :
    ∃ o v σ', ops[i]? = some o ∧ step1 C call ops o env σ = some (v, σ') ∧ evLine C call ops rest (putD env o.dst v) σ' (match isM o.op with | true => σ' :: st | false => st) = some (envF, σF, stF) := by
  simp only [evLine] at h
  split at h
  · rename_i o ho
    unfold lineStep at h
    split at h
    · rename_i v σ' hs
      exact ⟨o, v, σ', ho, hs, h⟩
    · cases h
  · cases h
theorem line_more : ∀ {π : List Nat} {env envF : Env} {σ σF : LS} {st stF : List LS}, evLine C call ops π env σ st = some (envF, σF, stF) → ∃ more, stF = more ++ st := by
  intro π
  induction π with
  | nil => intro env envF σ σF st stF h; simp only [evLine] at h; cases h; exact ⟨[], rfl⟩
  | cons i rest ih =>
    intro env envF σ σF st stF h
    obtain ⟨o, v, σ', _, _, h3⟩ := line_cons h
    obtain ⟨more, hm⟩ := ih h3
    split at hm
    · exact ⟨more ++ [σ'], by rw [hm]; simp⟩
    · exact ⟨more, hm⟩
/-- every operation of the line has its place -/
theorem at_of_mem : ∀ {π : List Nat} {env envF : Env} {σ σF : LS} {st stF : List LS}, evLine C call ops π env σ st = some (envF, σF, stF) → ∀ i ∈ π, ∃ pre o e τ v τ', At C call ops π env σ pre i o e τ v τ' := by
  intro π
  induction π with
  | nil => intro env envF σ σF st stF _ i hi; cases hi
  | cons j rest ih =>
    intro env envF σ σF st stF h i hi
    obtain ⟨o, v, σ', h1, h2, h3⟩ := line_cons h
    rcases List.mem_cons.1 hi with rfl | hi
    · exact ⟨_, _, _, _, _, _, .here h1 h2⟩
    · obtain ⟨pre, o2, e, τ, v2, τ', h4⟩ := ih h3 i hi
      exact ⟨_, _, _, _, _, _, .there h1 h2 h4⟩
/-- the line from an operation on -/
theorem At.line {π pre : List Nat} {env e envF : Env} {σ τ τ' σF : LS} {i : Nat} {o : Oper} {v : Value} {st stF : List LS} (h : At C call ops π env σ pre i o e τ v τ') (hn : π.Nodup) (hl : evLine C call ops π env σ st = some (envF, σF, stF)) :
    ∃ rest st2, π = pre ++ i :: rest ∧ evLine C call ops rest (putD e o.dst v) τ' st2 = some (envF, σF, stF) := by
  induction h generalizing st with
  | here ho hs =>
    obtain ⟨o2, v2, σ2, h1, h2, h3⟩ := line_cons hl
    rw [ho] at h1; cases h1
    rw [hs] at h2; cases h2
    exact ⟨_, _, rfl, h3⟩
  | there ho hs t ih =>
    obtain ⟨o2, v2, σ2, h1, h2, h3⟩ := line_cons hl
    rw [ho] at h1; cases h1
    rw [hs] at h2; cases h2
    obtain ⟨rest, st2, rfl, h4⟩ := ih (List.nodup_cons.1 hn).2 h3
    exact ⟨rest, st2, rfl, h4⟩
/-- what nothing more writes -/
theorem line_get : ∀ {π : List Nat} {env envF : Env} {σ σF : LS} {st stF : List LS}, evLine C call ops π env σ st = some (envF, σF, stF) → ∀ t, (∀ j ∈ π, ∀ oj, ops[j]? = some oj → oj.dst ≠ some t) → envF.get t = env.get t := by
  intro π
  induction π with
  | nil => intro env envF σ σF st stF h t _; simp only [evLine] at h; cases h; rfl
  | cons i rest ih =>
    intro env envF σ σF st stF h t hn
    obtain ⟨o, v, σ', h1, h2, h3⟩ := line_cons h
    rw [ih h3 t fun j hj => hn j (List.mem_cons_of_mem _ hj)]
    have hne := hn i List.mem_cons_self o h1
    cases hd : o.dst with
    | none => rfl
    | some d =>
      exact get_upd_other _ _ _ _ fun e => hne (by rw [hd, e])
end
end Sd
