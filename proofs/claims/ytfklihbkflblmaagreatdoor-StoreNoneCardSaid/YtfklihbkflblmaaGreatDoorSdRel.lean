import Derived.Test.YtfklihbkflblmaaGreatDoorSdEval
import Derived.Below
import Derived.RangeFuncLeaves
import Derived.OrdersIn
set_option linter.all false
namespace Sd
open Go

/-! ## The trie -/
section trie
variable {α : Type}
theorem get_nil (n : Nat) : (T.nil : T α).get n = none := rfl
theorem get_zero (l r : T α) (v : Option α) : (T.node l v r).get 0 = v := rfl
theorem get_even (l r : T α) (v : Option α) (k : Nat) (h : k % 2 = 0) : (T.node l v r).get (k + 1) = l.get (k / 2) := by
  have hb : Nat.beq (Nat.mod k 2) 0 = true := by rw [show Nat.mod k 2 = k % 2 from rfl, h]; rfl
  show Bool.rec (motive := fun _ => Option α) (r.get (Nat.div k 2)) (l.get (Nat.div k 2)) (Nat.beq (Nat.mod k 2) 0) = _
  rw [hb]; rfl
theorem get_odd (l r : T α) (v : Option α) (k : Nat) (h : k % 2 = 1) : (T.node l v r).get (k + 1) = r.get (k / 2) := by
  have hb : Nat.beq (Nat.mod k 2) 0 = false := by rw [show Nat.mod k 2 = k % 2 from rfl, h]; rfl
  show Bool.rec (motive := fun _ => Option α) (r.get (Nat.div k 2)) (l.get (Nat.div k 2)) (Nat.beq (Nat.mod k 2) 0) = _
  rw [hb]; rfl
theorem set_nil (n : Nat) (x : Option α) : (T.nil : T α).set n x = .nil := rfl
theorem set_zero (l r : T α) (v x : Option α) : (T.node l v r).set 0 x = .node l x r := rfl
theorem set_even (l r : T α) (v x : Option α) (k : Nat) (h : k % 2 = 0) : (T.node l v r).set (k + 1) x = .node (l.set (k / 2) x) v r := by
  have hb : Nat.beq (Nat.mod k 2) 0 = true := by rw [show Nat.mod k 2 = k % 2 from rfl, h]; rfl
  show Bool.rec (motive := fun _ => T α) (T.node l v (r.set (Nat.div k 2) x)) (T.node (l.set (Nat.div k 2) x) v r) (Nat.beq (Nat.mod k 2) 0) = _
  rw [hb]; rfl
theorem set_odd (l r : T α) (v x : Option α) (k : Nat) (h : k % 2 = 1) : (T.node l v r).set (k + 1) x = .node l v (r.set (k / 2) x) := by
  have hb : Nat.beq (Nat.mod k 2) 0 = false := by rw [show Nat.mod k 2 = k % 2 from rfl, h]; rfl
  show Bool.rec (motive := fun _ => T α) (T.node l v (r.set (Nat.div k 2) x)) (T.node (l.set (Nat.div k 2) x) v r) (Nat.beq (Nat.mod k 2) 0) = _
  rw [hb]; rfl
theorem get_set (t : T α) (x : Option α) : ∀ (n m : Nat) (u : α), (t.set n x).get m = some u → (m = n ∧ x = some u) ∨ (m ≠ n ∧ t.get m = some u) := by
  induction t with
  | nil => intro n m u h; rw [set_nil, get_nil] at h; cases h
  | node l v r ihl ihr =>
    intro n m u h
    rcases n with _ | k
    · rw [set_zero] at h
      rcases m with _ | j
      · exact .inl ⟨rfl, h⟩
      · refine .inr ⟨by simp, ?_⟩
        rcases Nat.mod_two_eq_zero_or_one j with hj | hj
        · rw [get_even _ _ _ _ hj] at h ⊢; exact h
        · rw [get_odd _ _ _ _ hj] at h ⊢; exact h
    · rcases Nat.mod_two_eq_zero_or_one k with hk | hk
      · rw [set_even _ _ _ _ _ hk] at h
        rcases m with _ | j
        · exact .inr ⟨by simp, h⟩
        · rcases Nat.mod_two_eq_zero_or_one j with hj | hj
          · rw [get_even _ _ _ _ hj] at h ⊢
            rcases ihl _ _ _ h with ⟨h1, h2⟩ | ⟨h1, h2⟩
            · exact .inl ⟨by omega, h2⟩
            · exact .inr ⟨by omega, h2⟩
          · rw [get_odd _ _ _ _ hj] at h ⊢
            exact .inr ⟨by omega, h⟩
      · rw [set_odd _ _ _ _ _ hk] at h
        rcases m with _ | j
        · exact .inr ⟨by simp, h⟩
        · rcases Nat.mod_two_eq_zero_or_one j with hj | hj
          · rw [get_even _ _ _ _ hj] at h ⊢
            exact .inr ⟨by omega, h⟩
          · rw [get_odd _ _ _ _ hj] at h ⊢
            rcases ihr _ _ _ h with ⟨h1, h2⟩ | ⟨h1, h2⟩
            · exact .inl ⟨by omega, h2⟩
            · exact .inr ⟨by omega, h2⟩
theorem get_set_other (t : T α) (x : Option α) : ∀ (n m : Nat), m ≠ n → (t.set n x).get m = t.get m := by
  induction t with
  | nil => intro n m _; rfl
  | node l v r ihl ihr =>
    intro n m hne
    rcases n with _ | k
    · rw [set_zero]
      rcases m with _ | j
      · exact absurd rfl hne
      · rcases Nat.mod_two_eq_zero_or_one j with hj | hj
        · rw [get_even _ _ _ _ hj, get_even _ _ _ _ hj]
        · rw [get_odd _ _ _ _ hj, get_odd _ _ _ _ hj]
    · rcases Nat.mod_two_eq_zero_or_one k with hk | hk
      · rw [set_even _ _ _ _ _ hk]
        rcases m with _ | j
        · rfl
        · rcases Nat.mod_two_eq_zero_or_one j with hj | hj
          · rw [get_even _ _ _ _ hj, get_even _ _ _ _ hj]; exact ihl _ _ (by omega)
          · rw [get_odd _ _ _ _ hj, get_odd _ _ _ _ hj]
      · rw [set_odd _ _ _ _ _ hk]
        rcases m with _ | j
        · rfl
        · rcases Nat.mod_two_eq_zero_or_one j with hj | hj
          · rw [get_even _ _ _ _ hj, get_even _ _ _ _ hj]
          · rw [get_odd _ _ _ _ hj, get_odd _ _ _ _ hj]; exact ihr _ _ (by omega)
theorem upd_nil (n : Nat) (x : α) : (T.nil : T α).upd n x = .nil := rfl
theorem upd_zero (l r : T α) (v : Option α) (x : α) : (T.node l v r).upd 0 x = .node l (v.map fun _ => x) r := by cases v <;> rfl
theorem upd_even (l r : T α) (v : Option α) (x : α) (k : Nat) (h : k % 2 = 0) : (T.node l v r).upd (k + 1) x = .node (l.upd (k / 2) x) v r := by
  have hb : Nat.beq (Nat.mod k 2) 0 = true := by rw [show Nat.mod k 2 = k % 2 from rfl, h]; rfl
  show Bool.rec (motive := fun _ => T α) (T.node l v (r.upd (Nat.div k 2) x)) (T.node (l.upd (Nat.div k 2) x) v r) (Nat.beq (Nat.mod k 2) 0) = _
  rw [hb]; rfl
theorem upd_odd (l r : T α) (v : Option α) (x : α) (k : Nat) (h : k % 2 = 1) : (T.node l v r).upd (k + 1) x = .node l v (r.upd (k / 2) x) := by
  have hb : Nat.beq (Nat.mod k 2) 0 = false := by rw [show Nat.mod k 2 = k % 2 from rfl, h]; rfl
  show Bool.rec (motive := fun _ => T α) (T.node l v (r.upd (Nat.div k 2) x)) (T.node (l.upd (Nat.div k 2) x) v r) (Nat.beq (Nat.mod k 2) 0) = _
  rw [hb]; rfl
theorem get_upd (t : T α) (x : α) : ∀ (n m : Nat) (u : α), (t.upd n x).get m = some u → (m = n ∧ u = x ∧ ∃ y, t.get n = some y) ∨ (m ≠ n ∧ t.get m = some u) := by
  induction t with
  | nil => intro n m u h; rw [upd_nil, get_nil] at h; cases h
  | node l v r ihl ihr =>
    intro n m u h
    rcases n with _ | k
    · rw [upd_zero] at h
      rcases m with _ | j
      · rw [get_zero] at h
        cases v with
        | none => cases h
        | some y => cases h; exact .inl ⟨rfl, rfl, y, rfl⟩
      · refine .inr ⟨by simp, ?_⟩
        rcases Nat.mod_two_eq_zero_or_one j with hj | hj
        · rw [get_even _ _ _ _ hj] at h ⊢; exact h
        · rw [get_odd _ _ _ _ hj] at h ⊢; exact h
    · rcases Nat.mod_two_eq_zero_or_one k with hk | hk
      · rw [upd_even _ _ _ _ _ hk] at h
        rcases m with _ | j
        · exact .inr ⟨by simp, h⟩
        · rcases Nat.mod_two_eq_zero_or_one j with hj | hj
          · rw [get_even _ _ _ _ hj] at h
            rcases ihl _ _ _ h with ⟨h1, h2, y, h3⟩ | ⟨h1, h2⟩
            · exact .inl ⟨by omega, h2, y, by rw [get_even _ _ _ _ hk]; exact h3⟩
            · exact .inr ⟨by omega, by rw [get_even _ _ _ _ hj]; exact h2⟩
          · rw [get_odd _ _ _ _ hj] at h
            exact .inr ⟨by omega, by rw [get_odd _ _ _ _ hj]; exact h⟩
      · rw [upd_odd _ _ _ _ _ hk] at h
        rcases m with _ | j
        · exact .inr ⟨by simp, h⟩
        · rcases Nat.mod_two_eq_zero_or_one j with hj | hj
          · rw [get_even _ _ _ _ hj] at h
            exact .inr ⟨by omega, by rw [get_even _ _ _ _ hj]; exact h⟩
          · rw [get_odd _ _ _ _ hj] at h
            rcases ihr _ _ _ h with ⟨h1, h2, y, h3⟩ | ⟨h1, h2⟩
            · exact .inl ⟨by omega, h2, y, by rw [get_odd _ _ _ _ hk]; exact h3⟩
            · exact .inr ⟨by omega, by rw [get_odd _ _ _ _ hj]; exact h2⟩
theorem get_full (d : Nat) : ∀ n, (T.full d : T α).get n = none := by
  induction d with
  | zero => intro n; rfl
  | succ d ih =>
    intro n
    show (T.node (T.full d) none (T.full d) : T α).get n = none
    rcases n with _ | k
    · rfl
    · rcases Nat.mod_two_eq_zero_or_one k with hk | hk
      · rw [get_even _ _ _ _ hk]; exact ih _
      · rw [get_odd _ _ _ _ hk]; exact ih _
end trie

theorem get_writeCells (c : T Value) (vs : List Value) : ∀ (off m : Nat) (u : Value), (writeCells c off vs).get m = some u →
    (∃ k, m = off + k ∧ vs[k]? = some u) ∨ ((m < off ∨ off + vs.length ≤ m) ∧ c.get m = some u) := by
  induction vs with
  | nil => intro off m u h; exact .inr ⟨by simp; omega, h⟩
  | cons v vs ih =>
    intro off m u h
    rcases get_set _ _ _ _ _ h with ⟨rfl, h2⟩ | ⟨h1, h2⟩
    · exact .inl ⟨0, by simp, by simpa using h2⟩
    · rcases ih _ _ _ h2 with ⟨k, hk, hv⟩ | ⟨h3, h4⟩
      · exact .inl ⟨k + 1, by simp [Nat.succ_eq_add_one] at hk; omega, by simpa using hv⟩
      · refine .inr ⟨?_, h4⟩
        simp only [List.length_cons, Nat.succ_eq_add_one] at h3 ⊢
        omega
theorem get_rowT (l : List Value) (m : Nat) (u : Value) (h : (rowT l).get m = some u) : l[m]? = some u := by
  rcases get_writeCells _ _ _ _ _ h with ⟨k, hk, hv⟩ | ⟨_, h4⟩
  · obtain rfl : m = k := by omega
    exact hv
  · rw [get_full] at h4; cases h4
theorem readCells_spec (c : T Value) (n : Nat) : ∀ (off : Nat) (l : List Value), readCells c off n = some l →
    l.length = n ∧ ∀ k v, l[k]? = some v → c.get (off + k) = some v := by
  induction n with
  | zero => intro off l h; simp [readCells] at h; subst h; simp
  | succ n ih =>
    intro off l h
    simp only [readCells] at h
    split at h
    · rename_i v hv
      split at h
      · rename_i vs hvs
        obtain ⟨h1, h2⟩ := ih _ _ hvs
        cases h
        refine ⟨by simp [h1], fun k u hu => ?_⟩
        rcases k with _ | k
        · simp at hu; subst hu; exact hv
        · simp at hu; have := h2 k u hu; rwa [Nat.succ_eq_add_one, show off + 1 + k = off + (k + 1) from by omega] at this
      · cases h
    · cases h

theorem nmod2_true {b : Nat} (h : nmod2 b = true) : b = 2 * (b / 2) := by
  have : b % 2 = 0 := by simpa [nmod2, show Nat.mod b 2 = b % 2 from rfl] using h
  omega
theorem nmod2_false {b : Nat} (h : nmod2 b = false) : b = 2 * (b / 2) + 1 := by
  have : ¬ b % 2 = 0 := fun e => by simp [nmod2, show Nat.mod b 2 = b % 2 from rfl, e] at h
  omega

/-! ## Values -/
structure Loc where
  r : Nat
  sh : Nat
  cap : Nat
abbrev Inj := Nat → Option Loc
def Inj.le (ι ι' : Inj) : Prop := ∀ b L, ι b = some L → ι' b = some L
theorem Inj.le_refl (ι : Inj) : ι.le ι := fun _ _ h => h
theorem Inj.le_trans {a b c : Inj} (h : a.le b) (k : b.le c) : a.le c := fun x L hx => k x L (h x L hx)

/-- block and place, as they are called here, and where they lie -/
inductive AR (ι : Inj) : Nat → Nat → Nat → Nat → Prop where
  | ro (r off : Nat) : AR ι (2 * r + 1) off r off
  | own (b off : Nat) (L : Loc) (h : ι b = some L) : AR ι (2 * b) off L.r (off + L.sh)

inductive VR (ι : Inj) : Value → Value → Prop where
  | atom {v : Value} (h : atomic v = true) : VR ι v v
  | tok {k : Nat} {v : Value} (h : hasTok k v = true) : VR ι (.chan (some k)) v
  | ptr {b off r o : Nat} (h : AR ι b off r o) : VR ι (.pointer (some ⟨b, off, none⟩)) (.pointer (some ⟨r, o, none⟩))
  | slice {b off r o l cap : Nat} (h : AR ι b off r o) (hc : cap < UNK) : VR ι (.slice (some ⟨b, off, none⟩) l cap) (.slice (some ⟨r, o, none⟩) l cap)
  | oslice {b off l lo : Nat} {L : Loc} (h : ι b = some L) (hc : l + lo ≤ L.cap) : VR ι (.slice (some ⟨2 * b, off, none⟩) l (UNK + lo)) (.slice (some ⟨L.r, off + L.sh, none⟩) l (L.cap - lo))
  | eslice {b off lo r o : Nat} {L : Loc} (h : ι b = some L) : VR ι (.slice (some ⟨2 * b, off, none⟩) 0 (UNK + lo)) (.slice (some ⟨r, o, none⟩) 0 0)
  | zslice {b off r o : Nat} {L : Loc} (h : ι b = some L) : VR ι (.slice (some ⟨2 * b, off, none⟩) 0 0) (.slice (some ⟨r, o, none⟩) 0 0)
  | map {b : Nat} {L : Loc} (h : ι b = some L) : VR ι (.map (some (2 * b))) (.map (some L.r))
  | yield {b : Nat} {L : Loc} (h : ι b = some L) : VR ι (.func (.yield (2 * b)) #[] #[]) (.func (.yield L.r) #[] #[])
  | func {f : FuncId} {a a' c c' : Array Value} (ha : a.size = a'.size) (hc : c.size = c'.size)
      (pa : ∀ i (h : i < a.size) (h' : i < a'.size), VR ι a[i] a'[i]) (pc : ∀ i (h : i < c.size) (h' : i < c'.size), VR ι c[i] c'[i]) : VR ι (.func (.func f) a c) (.func (.func f) a' c')
  | iface {t : TypeId} {v v' : Value} (h : VR ι v v') : VR ι (.iface t v) (.iface t v')
  | agg {a a' : Array Value} (ha : a.size = a'.size) (pa : ∀ i (h : i < a.size) (h' : i < a'.size), VR ι a[i] a'[i]) : VR ι (.agg a) (.agg a')
  | tuple {a a' : Array Value} (ha : a.size = a'.size) (pa : ∀ i (h : i < a.size) (h' : i < a'.size), VR ι a[i] a'[i]) : VR ι (.tuple a) (.tuple a')

theorem AR.mono {ι ι' : Inj} (hle : ι.le ι') {b off r o : Nat} (h : AR ι b off r o) : AR ι' b off r o := by
  cases h with
  | ro => exact .ro _ _
  | own b off L h => exact .own _ _ _ (hle _ _ h)
theorem VR.mono {ι ι' : Inj} (hle : ι.le ι') {v v' : Value} (h : VR ι v v') : VR ι' v v' := by
  induction h with
  | atom h => exact .atom h
  | tok h => exact .tok h
  | ptr h => exact .ptr (h.mono hle)
  | slice h hc => exact .slice (h.mono hle) hc
  | oslice h hc => exact .oslice (hle _ _ h) hc
  | eslice h => exact .eslice (hle _ _ h)
  | zslice h => exact .zslice (hle _ _ h)
  | map h => exact .map (hle _ _ h)
  | yield h => exact .yield (hle _ _ h)
  | func ha hc _ _ pa pc => exact .func ha hc pa pc
  | iface _ ih => exact .iface ih
  | agg ha _ pa => exact .agg ha pa
  | tuple ha _ pa => exact .tuple ha pa

theorem allAtomic_mem : ∀ {l : List Value}, allAtomic l = true → ∀ v ∈ l, atomic v = true := by
  intro l
  induction l with
  | nil => intro _ v hv; cases hv
  | cons a l ih =>
    intro h v hv
    simp only [allAtomic] at h
    split at h
    · rename_i ha
      rcases List.mem_cons.1 hv with rfl | hv
      · exact ha
      · exact ih h v hv
    · cases h
theorem VR.atomic_eq {ι : Inj} {v v' : Value} (h : VR ι v v') (ha : atomic v = true) : v' = v := by
  cases h <;> first | rfl | (simp [atomic] at ha)
theorem arr_eq {ι : Inj} {a a' : Array Value} (ha : a.size = a'.size) (pa : ∀ i (h : i < a.size) (h' : i < a'.size), VR ι a[i] a'[i]) (hf : allAtomic a.toList = true) : a' = a := by
  apply Array.ext
  · exact ha.symm
  · intro i h1 h2
    exact (pa i h2 h1).atomic_eq (allAtomic_mem hf _ (by simp))
theorem VR.flat_eq {ι : Inj} {v v' : Value} (h : VR ι v v') (ha : flat v = true) : v' = v := by
  cases h with
  | agg hs pa => rw [arr_eq hs pa ha]
  | tuple hs pa => rw [arr_eq hs pa ha]
  | atom h => rfl
  | _ => simp [flat, atomic] at ha
theorem VR.of_flat {ι : Inj} {v : Value} (h : flat v = true) : VR ι v v := by
  cases v with
  | agg a => exact .agg rfl fun i h1 _ => .atom (allAtomic_mem h _ (by simp))
  | tuple a => exact .tuple rfl fun i h1 _ => .atom (allAtomic_mem h _ (by simp))
  | _ => exact .atom h

/-! lists of values -/
inductive VL (ι : Inj) : List Value → List Value → Prop where
  | nil : VL ι [] []
  | cons {a a' : Value} {l l' : List Value} (h : VR ι a a') (t : VL ι l l') : VL ι (a :: l) (a' :: l')
theorem VL.mono {ι ι' : Inj} (hle : ι.le ι') {l l' : List Value} (h : VL ι l l') : VL ι' l l' := by
  induction h with
  | nil => exact .nil
  | cons h _ ih => exact .cons (h.mono hle) ih
theorem VL.get {ι : Inj} {l l' : List Value} (h : VL ι l l') : ∀ {i : Nat} {v : Value}, l[i]? = some v → ∃ v', l'[i]? = some v' ∧ VR ι v v' := by
  induction h with
  | nil => intro i v hv; simp at hv
  | cons h _ ih =>
    intro i v hv
    rcases i with _ | i
    · simp at hv; subst hv; exact ⟨_, by simp, h⟩
    · simp at hv; obtain ⟨v', h1, h2⟩ := ih hv; exact ⟨v', by simpa using h1, h2⟩
theorem VL.length {ι : Inj} {l l' : List Value} (h : VL ι l l') : l.length = l'.length := by
  induction h with
  | nil => rfl
  | cons _ _ ih => simp [ih]
theorem VL.of_get {ι : Inj} : ∀ {l l' : List Value}, l.length = l'.length → (∀ (i : Nat) (v : Value), l[i]? = some v → ∃ v', l'[i]? = some v' ∧ VR ι v v') → VL ι l l' := by
  intro l
  induction l with
  | nil => intro l' hl _; cases l' with | nil => exact .nil | cons => simp at hl
  | cons a l ih =>
    intro l' hl h
    cases l' with
    | nil => simp at hl
    | cons a' l' =>
      obtain ⟨v', h1, h2⟩ := h 0 a (by simp)
      simp at h1; subst h1
      exact .cons h2 (ih (by simpa using hl) fun i v hv => by simpa using h (i + 1) v (by simpa using hv))
theorem VL.append {ι : Inj} {a a' b b' : List Value} (h : VL ι a a') (k : VL ι b b') : VL ι (a ++ b) (a' ++ b') := by
  induction h with
  | nil => exact k
  | cons h _ ih => exact .cons h ih
theorem VL.of_arr {ι : Inj} {a a' : Array Value} (ha : a.size = a'.size) (pa : ∀ i (h : i < a.size) (h' : i < a'.size), VR ι a[i] a'[i]) : VL ι a.toList a'.toList := by
  refine .of_get (by simpa using ha) fun i v hv => ?_
  rw [Array.getElem?_toList] at hv
  obtain ⟨h1, rfl⟩ := Array.getElem?_eq_some_iff.1 hv
  exact ⟨a'[i]'(by omega), by rw [Array.getElem?_toList]; exact Array.getElem?_eq_getElem _, pa i h1 _⟩
theorem VL.arr {ι : Inj} {a a' : Array Value} (h : VL ι a.toList a'.toList) : a.size = a'.size ∧ ∀ i (h : i < a.size) (h' : i < a'.size), VR ι a[i] a'[i] := by
  refine ⟨by simpa using h.length, fun i h1 h2 => ?_⟩
  obtain ⟨v', e1, e2⟩ := h.get (i := i) (v := a[i]) (by rw [Array.getElem?_toList]; exact Array.getElem?_eq_getElem _)
  rw [Array.getElem?_toList, Array.getElem?_eq_getElem h2] at e1
  cases e1; exact e2
theorem VR.agg' {ι : Inj} {a a' : Array Value} (h : VL ι a.toList a'.toList) : VR ι (.agg a) (.agg a') := .agg h.arr.1 h.arr.2
theorem VR.tuple' {ι : Inj} {a a' : Array Value} (h : VL ι a.toList a'.toList) : VR ι (.tuple a) (.tuple a') := .tuple h.arr.1 h.arr.2
theorem VR.func' {ι : Inj} {f : FuncId} {a a' c c' : Array Value} (h : VL ι a.toList a'.toList) (k : VL ι c.toList c'.toList) : VR ι (.func (.func f) a c) (.func (.func f) a' c') :=
  .func h.arr.1 k.arr.1 h.arr.2 k.arr.2
theorem tok_cells {k : Nat} {v : Value} (h : hasTok k v = true) : v.cells.toList = [v] ∧ v.oneCell' = true := by
  unfold hasTok at h
  split at h <;> first | exact ⟨rfl, rfl⟩ | cases h
theorem VR.oneCell {ι : Inj} {v v' : Value} (h : VR ι v v') : v'.oneCell' = oneC v := by
  cases h <;> first | rfl | (rename_i v h; cases v <;> simp_all [atomic, Value.oneCell', oneC]; done) | (rename_i h; exact (tok_cells h).2)
theorem VR.cells {ι : Inj} {v v' : Value} (h : VR ι v v') : VL ι (cellsOfV v) v'.cells.toList := by
  cases h with
  | tok h => rw [(tok_cells h).1]; exact .cons (.tok h) .nil
  | agg hs pa => exact .of_arr hs pa
  | atom h => cases v <;> first | exact .cons (.atom h) .nil | (simp [atomic] at h)
  | ptr h => exact .cons (.ptr h) .nil
  | slice h hc => exact .cons (.slice h hc) .nil
  | oslice h hc => exact .cons (.oslice h hc) .nil
  | eslice h => exact .cons (.eslice h) .nil
  | zslice h => exact .cons (.zslice h) .nil
  | map h => exact .cons (.map h) .nil
  | yield h => exact .cons (.yield h) .nil
  | func ha hc pa pc => exact .cons (.func ha hc pa pc) .nil
  | iface h => exact .cons (.iface h) .nil
  | tuple hs pa => exact .cons (.tuple hs pa) .nil

def EnvR (ι : Inj) (env : Env) (tmps : Array Value) : Prop := ∀ t v, env.get t = some v → ∃ v', tmps[t]? = some v' ∧ VR ι v v'
theorem EnvR.mono {ι ι' : Inj} (hle : ι.le ι') {env : Env} {tmps : Array Value} (h : EnvR ι env tmps) : EnvR ι' env tmps :=
  fun t v hv => let ⟨v', a, b⟩ := h t v hv; ⟨v', a, b.mono hle⟩
theorem EnvR.eval {ι : Inj} {env : Env} {a : Act} (h : EnvR ι env a.tmps) {x : Operand} {v : Value} (hv : ev1 env x = some v) : VR ι v (a.eval x) := by
  cases x with
  | tmp t => obtain ⟨v', h1, h2⟩ := h t v hv; simpa [Act.eval, h1] using h2
  | const c =>
    simp only [ev1] at hv
    split at hv
    · rename_i hf; cases hv; exact .of_flat hf
    · cases hv
  | global g => simp only [ev1] at hv; cases hv; exact .ptr (.ro _ _)
  | func f => simp only [ev1] at hv; cases hv; exact .func rfl rfl (fun i h => by simp at h) (fun i h => by simp at h)
theorem EnvR.put {ι : Inj} {env : Env} {a : Act} (h : EnvR ι env a.tmps) {v v' : Value} (hv : VR ι v v') (d : Option Tmp) : EnvR ι (putD env d v) (a.put d v').tmps := by
  cases d with
  | none => exact h
  | some d =>
    intro t u hu
    rcases get_upd _ _ _ _ _ hu with ⟨rfl, rfl, y, hy⟩ | ⟨h1, h2⟩
    · obtain ⟨y', h3, _⟩ := h _ _ hy
      refine ⟨v', ?_, hv⟩
      have := (Array.getElem?_eq_some_iff.1 h3).1
      simp [Act.put, this]
    · obtain ⟨u', h3, h4⟩ := h t u h2
      exact ⟨u', by simpa [Act.put, Array.getElem?_setIfInBounds_ne (Ne.symm h1)] using h3, h4⟩
theorem EnvR.all {ι : Inj} {env : Env} {a : Act} (h : EnvR ι env a.tmps) : ∀ {xs : List Operand} {vs : List Value}, all1 env xs = some vs → VL ι vs (xs.map a.eval) := by
  intro xs
  induction xs with
  | nil => intro vs hv; simp [all1] at hv; subst hv; exact .nil
  | cons x xs ih =>
    intro vs hv
    simp only [all1] at hv
    split at hv
    · rename_i v h1
      split at hv
      · rename_i ws h2; cases hv; exact .cons (h.eval h1) (ih h2)
      · cases hv
    · cases hv
end Sd
