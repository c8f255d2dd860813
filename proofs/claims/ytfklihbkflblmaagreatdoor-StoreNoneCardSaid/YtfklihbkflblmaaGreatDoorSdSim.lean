import Derived.Test.YtfklihbkflblmaaGreatDoorSdRel
import Derived.Laws.AppendOwn
import Derived.Laws.CopyRow
set_option linter.all false
namespace Sd
open Go Go.RowKit

/-! ## Entries of maps, blocks -/
inductive ER (ι : Inj) : List (Value × Value × Nat) → List MapEntry → Prop where
  | nil : ER ι [] []
  | cons {k v v' : Value} {b : Nat} {l : List (Value × Value × Nat)} {l' : List MapEntry} (hk : flat k = true) (hv : VR ι v v') (t : ER ι l l') : ER ι ((k, v, b) :: l) (⟨k, v', b⟩ :: l')
theorem ER.mono {ι ι' : Inj} (hle : ι.le ι') {l : List (Value × Value × Nat)} {l' : List MapEntry} (h : ER ι l l') : ER ι' l l' := by
  induction h with
  | nil => exact .nil
  | cons hk hv _ ih => exact .cons hk (hv.mono hle) ih

inductive ObjR (P : Program) (ι : Inj) (L : Loc) : LObj → Obj → Prop where
  | row {e : TypeId} {n : Nat} {c : T Value} {cs : Array Value} (hs : L.sh = 0) (hn : cs.size = n)
      (h : ∀ i v, c.get i = some v → ∃ v', cs[i]? = some v' ∧ VR ι v v') : ObjR P ι L (.row e n c) (.cells cs e (0, 0))
  | orow {e : TypeId} {n : Nat} {c : T Value} {cs : Array Value} (hn : L.sh + n ≤ cs.size) (hcap : L.sh + L.cap * szOf P e ≤ cs.size) (hm : L.cap ≤ maxLen)
      (h : ∀ i v, c.get i = some v → ∃ v', cs[i + L.sh]? = some v' ∧ VR ι v v') : ObjR P ι L (.orow e n c) (.cells cs e (0, 0))
  | map {es : List (Value × Value × Nat)} {es' : Array MapEntry} {clock : Nat} (h : ER ι es es'.toList) : ObjR P ι L (.map es clock) (.map es' clock)
  | siter {s : ByteArray} {pos : Nat} (hs : L.sh = 0) : ObjR P ι L (.siter s pos) (.stringIter s pos)
  | miter0 {since stepped : Nat} {sn : List Nat} (hs : L.sh = 0) : ObjR P ι L (.miter none since sn stepped) (.mapIter none since ⟨sn⟩ stepped)
  | miter {m since stepped : Nat} {sn : List Nat} {Lm : Loc} (hs : L.sh = 0) (h : ι m = some Lm) : ObjR P ι L (.miter (some (2 * m)) since sn stepped) (.mapIter (some Lm.r) since ⟨sn⟩ stepped)
  | loop {fn d : Nat} {env : Env} {tmps : Array Value} {ps : Array Tmp} {assign body : Code} {busy : Bool} {Ld : Loc} (hd : ι d = some Ld) (he : EnvR ι env tmps) :
      ObjR P ι L (.loop env ps assign body d busy) (.loop { state := if busy then .busy else .ready, pending := none, fn, tmps, params := ps, assign, body, defers := Ld.r })
  | deferred : ObjR P ι L .deferred (.deferred (some []))
theorem ObjR.mono {P : Program} {ι ι' : Inj} (hle : ι.le ι') {L : Loc} {o : LObj} {r : Obj} (h : ObjR P ι L o r) : ObjR P ι' L o r := by
  cases h with
  | row hs hn h => exact .row hs hn fun i v hv => let ⟨v', a, b⟩ := h i v hv; ⟨v', a, b.mono hle⟩
  | orow hn hcap hm h => exact .orow hn hcap hm fun i v hv => let ⟨v', a, b⟩ := h i v hv; ⟨v', a, b.mono hle⟩
  | map h => exact .map (h.mono hle)
  | siter hs => exact .siter hs
  | miter0 hs => exact .miter0 hs
  | miter hs h => exact .miter hs (hle _ _ h)
  | loop hd he => exact .loop (hle _ _ hd) (he.mono hle)
  | deferred => exact .deferred

def RoOK (C : Ctx) (w : World) : Prop := ∀ r c, C.ro r = some c → ∃ cs e fz, w.heap[r]? = some (.cells cs e fz) ∧ ∀ i v, c.get i = some v → ∃ v', cs[i]? = some v' ∧ ∀ ι, VR ι v v'

structure Sim (C : Ctx) (w0 : World) (ι : Inj) (σ : LS) (w : World) : Prop where
  below : Below w0.heap.size w0 w
  dom : ∀ b L, ι b = some L → b < σ.next ∧ w0.heap.size ≤ L.r ∧ L.r < w.heap.size
  live : ∀ b o, σ.heap.get b = some o → ∃ L ro, ι b = some L ∧ w.heap[L.r]? = some ro ∧ ObjR C.P ι L o ro
  inj : ∀ b b' o o' L L', σ.heap.get b = some o → σ.heap.get b' = some o' → ι b = some L → ι b' = some L' → L.r = L'.r → b = b'
  ro : RoOK C w0
  flo : σ.floor ≤ σ.next

/-- a real block that a living one lies at -/
def Live (ι : Inj) (σ : LS) (r : Nat) : Prop := ∃ b o L, σ.heap.get b = some o ∧ ι b = some L ∧ L.r = r

/-- what a piece of a run does to the heap, seen from both sides -/
structure Moved (C : Ctx) (w0 : World) (ι : Inj) (σ : LS) (w : World) (ι' : Inj) (σ' : LS) (w' : World) : Prop where
  le : ι.le ι'
  sim : Sim C w0 ι' σ' w'
  next : σ.next ≤ σ'.next
  size : w.heap.size ≤ w'.heap.size
  frame : ∀ r, r < w.heap.size → ¬ Live ι σ r → w'.heap[r]? = w.heap[r]?
  fresh : ∀ r, Live ι' σ' r → Live ι σ r ∨ w.heap.size ≤ r
  floor : ∀ b o L, b < σ.floor → σ.heap.get b = some o → ι b = some L → σ'.heap.get b = some o ∧ w'.heap[L.r]? = w.heap[L.r]?
  fl : σ'.floor = σ.floor
  dfr : σ'.dfr = σ.dfr
  keepD : ∀ d, σ.heap.get d = some .deferred → σ'.heap.get d = some .deferred
  news : ∀ b L, ι' b = some L → ι b = some L ∨ σ.next ≤ b

theorem Moved.refl {C : Ctx} {w0 : World} {ι : Inj} {σ : LS} {w : World} (h : Sim C w0 ι σ w) : Moved C w0 ι σ w ι σ w :=
  ⟨ι.le_refl, h, Nat.le_refl _, Nat.le_refl _, fun _ _ _ => rfl, fun _ h => .inl h, fun _ _ _ _ h _ => ⟨h, rfl⟩, rfl, rfl, fun _ h => h, fun _ _ h => .inl h⟩
theorem Moved.trans {C : Ctx} {w0 : World} {ι : Inj} {σ : LS} {w : World} {ι' : Inj} {σ' : LS} {w' : World} {ι'' : Inj} {σ'' : LS} {w'' : World}
    (a : Moved C w0 ι σ w ι' σ' w') (b : Moved C w0 ι' σ' w' ι'' σ'' w'') : Moved C w0 ι σ w ι'' σ'' w'' := by
  refine ⟨Inj.le_trans a.le b.le, b.sim, Nat.le_trans a.next b.next, Nat.le_trans a.size b.size, ?_, ?_, ?_, b.fl.trans a.fl, b.dfr.trans a.dfr, fun d h => b.keepD d (a.keepD d h), fun x L h => (b.news x L h).elim (a.news x L) fun h => .inr (Nat.le_trans a.next h)⟩
  · intro r hr hl
    rw [b.frame r (Nat.lt_of_lt_of_le hr a.size) fun h' => ?_, a.frame r hr hl]
    rcases a.fresh r h' with h | h
    · exact hl h
    · omega
  · intro r hl
    rcases b.fresh r hl with h | h
    · exact a.fresh r h
    · have := a.size; exact .inr (by omega)
  · intro x o L hx ho hL
    obtain ⟨h1, h2⟩ := a.floor x o L hx ho hL
    obtain ⟨h3, h4⟩ := b.floor x o L (by rw [a.fl]; exact hx) h1 (a.le _ _ hL)
    exact ⟨h3, h4.trans h2⟩

theorem Below_of_frame {B : Nat} {w0 w w' : World} (h : Below B w0 w) (hos : w'.os = w.os) (ht : w'.tape = w.tape) (ho : w'.output = w.output) (hs : w.heap.size ≤ w'.heap.size)
    (hf : ∀ r, r < B → w'.heap[r]? = w.heap[r]?) : Below B w0 w' :=
  ⟨hos.trans h.os, ht.trans h.tape, ho.trans h.output, Nat.le_trans h.size hs, fun k hk => (hf k hk).trans (h.block k hk)⟩

/-- two worlds that have the same heap, tape and outside -/
structure Same (w w' : World) : Prop where
  heap : w'.heap = w.heap
  os : w'.os = w.os
  tape : w'.tape = w.tape
  output : w'.output = w.output
theorem Sim.same {C : Ctx} {w0 : World} {ι : Inj} {σ : LS} {w w' : World} (h : Sim C w0 ι σ w) (hs : Same w w') : Sim C w0 ι σ w' := by
  refine ⟨Below_of_frame h.below hs.os hs.tape hs.output (by rw [hs.heap]; exact Nat.le_refl _) (fun r _ => by rw [hs.heap]), ?_, ?_, h.inj, h.ro, h.flo⟩
  · intro b L hb; rw [hs.heap]; exact h.dom b L hb
  · intro b o ho; rw [hs.heap]; exact h.live b o ho
theorem Moved.same {C : Ctx} {w0 : World} {ι : Inj} {σ : LS} {w w' : World} (h : Sim C w0 ι σ w) (hs : Same w w') : Moved C w0 ι σ w ι σ w' :=
  ⟨ι.le_refl, h.same hs, Nat.le_refl _, by rw [hs.heap]; exact Nat.le_refl _, fun _ _ _ => by rw [hs.heap], fun _ h => .inl h, fun _ _ _ _ h _ => ⟨h, by rw [hs.heap]⟩, rfl, rfl, fun _ h => h, fun _ _ h => .inl h⟩
theorem Same.drew (w : World) : Same w w.drew := ⟨rfl, rfl, rfl, rfl⟩
theorem Same.refl (w : World) : Same w w := ⟨rfl, rfl, rfl, rfl⟩

/-! ### One living block is turned, or struck -/
structure Turned (w w' : World) (r : Nat) (ro : Obj) : Prop where
  size : w'.heap.size = w.heap.size
  at_ : w'.heap[r]? = some ro
  other : ∀ k, k ≠ r → w'.heap[k]? = w.heap[k]?
  os : w'.os = w.os
  tape : w'.tape = w.tape
  output : w'.output = w.output

theorem moved_put {C : Ctx} {w0 : World} {ι : Inj} {σ : LS} {w w' : World} {b : Nat} {o : LObj} {L : Loc} {ro : Obj} (h : Sim C w0 ι σ w)
    (hg : σ.heap.get b = some o) (hL : ι b = some L) (hfl : σ.floor ≤ b) (hnd : o ≠ .deferred) (n : Option LObj) (hn : ∀ o', n = some o' → ObjR C.P ι L o' ro) (ht : Turned w w' L.r ro) :
    Moved C w0 ι σ w ι (σ.put b n) w' := by
  have hdL := h.dom b L hL
  refine ⟨ι.le_refl, ⟨?_, ?_, ?_, ?_, h.ro, h.flo⟩, Nat.le_refl _, by rw [ht.size]; exact Nat.le_refl _, ?_, ?_, ?_, rfl, rfl, ?_, fun _ _ h => .inl h⟩
  · exact Below_of_frame h.below ht.os ht.tape ht.output (by rw [ht.size]; exact Nat.le_refl _) fun r hr => ht.other r (by omega)
  · intro x K hx; rw [ht.size]; exact h.dom x K hx
  · intro x ox hx
    rcases get_set _ _ _ _ _ hx with ⟨rfl, h2⟩ | ⟨h1, h2⟩
    · exact ⟨L, ro, hL, ht.at_, hn _ h2⟩
    · obtain ⟨K, rx, k1, k2, k3⟩ := h.live x ox h2
      refine ⟨K, rx, k1, ?_, k3⟩
      rw [ht.other _ fun e => h1 (h.inj x b ox o K L h2 hg k1 hL e)]
      exact k2
  · intro x y ox oy K M hx hy hK hM he
    have gx : ∃ ox', σ.heap.get x = some ox' := by
      rcases get_set _ _ _ _ _ hx with ⟨rfl, _⟩ | ⟨_, h2⟩
      · exact ⟨o, hg⟩
      · exact ⟨ox, h2⟩
    have gy : ∃ oy', σ.heap.get y = some oy' := by
      rcases get_set _ _ _ _ _ hy with ⟨rfl, _⟩ | ⟨_, h2⟩
      · exact ⟨o, hg⟩
      · exact ⟨oy, h2⟩
    obtain ⟨ox', gx⟩ := gx
    obtain ⟨oy', gy⟩ := gy
    exact h.inj x y ox' oy' K M gx gy hK hM he
  · intro r hr hl
    exact ht.other r fun e => hl ⟨b, o, L, hg, hL, e.symm⟩
  · rintro r ⟨x, ox, K, hx, hK, rfl⟩
    left
    rcases get_set _ _ _ _ _ hx with ⟨rfl, _⟩ | ⟨_, h2⟩
    · exact ⟨x, o, K, hg, hK, rfl⟩
    · exact ⟨x, ox, K, h2, hK, rfl⟩
  · intro x ox K hx hox hK
    have hne : x ≠ b := by omega
    refine ⟨?_, ht.other _ fun e => hne (h.inj x b ox o K L hox hg hK hL e)⟩
    show (σ.heap.set b n).get x = some ox
    rw [get_set_other _ _ _ _ hne]; exact hox
  · intro d hd
    have hne : d ≠ b := fun e => hnd (by rw [e, hg] at hd; exact Option.some.inj hd)
    show (σ.heap.set b n).get d = some .deferred
    rw [get_set_other _ _ _ _ hne]; exact hd

/-! ### A new block -/
structure Grown (w w' : World) (ro : Obj) : Prop where
  size : w'.heap.size = w.heap.size + 1
  at_ : w'.heap[w.heap.size]? = some ro
  other : ∀ k, k < w.heap.size → w'.heap[k]? = w.heap[k]?
  os : w'.os = w.os
  tape : w'.tape = w.tape
  output : w'.output = w.output
theorem Grown.alloc (w : World) (o : Obj) : Grown w (w.alloc o) o :=
  ⟨by simp, heap_alloc_new w o, fun k hk => Below.heap_alloc w o k hk, rfl, rfl, rfl⟩
theorem Grown.drew_alloc (w : World) (o : Obj) : Grown w (w.drew.alloc o) o :=
  ⟨by simp, heap_alloc_new w.drew o, fun k hk => Below.heap_alloc w.drew o k hk, rfl, rfl, rfl⟩
def Inj.add (ι : Inj) (b : Nat) (L : Loc) : Inj := fun x => if x = b then some L else ι x
theorem Inj.add_same (ι : Inj) (b : Nat) (L : Loc) : ι.add b L b = some L := by simp [Inj.add]
theorem Inj.add_le {ι : Inj} {b : Nat} {L : Loc} (h : ι b = none) : ι.le (ι.add b L) := by
  intro x K hx
  have : x ≠ b := fun e => by rw [e, h] at hx; cases hx
  simp [Inj.add, this, hx]
theorem Sim.next_none {C : Ctx} {w0 : World} {ι : Inj} {σ : LS} {w : World} (h : Sim C w0 ι σ w) : ι σ.next = none := by
  cases e : ι σ.next with
  | none => rfl
  | some L => have := (h.dom _ _ e).1; omega
theorem Sim.next_dead {C : Ctx} {w0 : World} {ι : Inj} {σ : LS} {w : World} (h : Sim C w0 ι σ w) : σ.heap.get σ.next = none := by
  cases e : σ.heap.get σ.next with
  | none => rfl
  | some o => obtain ⟨L, _, h1, _⟩ := h.live _ _ e; rw [h.next_none] at h1; cases h1

theorem moved_new {C : Ctx} {w0 : World} {ι : Inj} {σ : LS} {w w' : World} {o : LObj} {ro : Obj} (h : Sim C w0 ι σ w) (cap : Nat)
    (ho : ObjR C.P (ι.add σ.next ⟨w.heap.size, 0, cap⟩) ⟨w.heap.size, 0, cap⟩ o ro) (hg : Grown w w' ro) :
    Moved C w0 ι σ w (ι.add σ.next ⟨w.heap.size, 0, cap⟩) (σ.new o) w' := by
  have hle : ι.le (ι.add σ.next ⟨w.heap.size, 0, cap⟩) := Inj.add_le h.next_none
  have hb := h.below.size
  have key : ∀ x K, (ι.add σ.next ⟨w.heap.size, 0, cap⟩) x = some K → (x = σ.next ∧ K = ⟨w.heap.size, 0, cap⟩) ∨ (x ≠ σ.next ∧ ι x = some K) := by
    intro x K hx
    simp only [Inj.add] at hx
    split at hx
    · rename_i e; exact .inl ⟨e, (Option.some.inj hx).symm⟩
    · rename_i e; exact .inr ⟨e, hx⟩
  have keyg : ∀ x ox, (σ.new o).heap.get x = some ox → (x = σ.next ∧ ox = o) ∨ (x ≠ σ.next ∧ σ.heap.get x = some ox) := by
    intro x ox hx
    rcases get_set _ _ _ _ _ hx with ⟨h1, h2⟩ | h2
    · exact .inl ⟨h1, (Option.some.inj h2).symm⟩
    · exact .inr h2
  refine ⟨hle, ⟨?_, ?_, ?_, ?_, h.ro, Nat.le_succ_of_le h.flo⟩, by show σ.next ≤ σ.next + 1; omega, by rw [hg.size]; omega, ?_, ?_, ?_, rfl, rfl, ?_, fun x K hx => (key x K hx).elim (fun h => .inr (Nat.le_of_eq h.1.symm)) fun h => .inl h.2⟩
  · exact Below_of_frame h.below hg.os hg.tape hg.output (by rw [hg.size]; omega) fun r hr => hg.other r (by omega)
  · intro x K hx
    rw [hg.size]
    show x < σ.next + 1 ∧ _
    rcases key x K hx with ⟨rfl, rfl⟩ | ⟨_, h2⟩
    · refine ⟨by omega, hb, ?_⟩; show w.heap.size < _; omega
    · have := h.dom x K h2; omega
  · intro x ox hx
    rcases keyg x ox hx with ⟨rfl, rfl⟩ | ⟨h1, h2⟩
    · exact ⟨_, ro, Inj.add_same _ _ _, hg.at_, ho⟩
    · obtain ⟨K, rx, k1, k2, k3⟩ := h.live x ox h2
      exact ⟨K, rx, hle _ _ k1, by rw [hg.other _ (h.dom _ _ k1).2.2]; exact k2, k3.mono hle⟩
  · intro x y ox oy K M hx hy hK hM he
    rcases key x K hK with ⟨rfl, rfl⟩ | ⟨h1, h2⟩ <;> rcases key y M hM with ⟨rfl, rfl⟩ | ⟨h3, h4⟩
    · rfl
    · have := (h.dom y M h4).2.2; simp only at he; omega
    · have := (h.dom x K h2).2.2; simp only at he; omega
    · rcases keyg x ox hx with ⟨e, _⟩ | ⟨_, gx⟩
      · exact absurd e h1
      · rcases keyg y oy hy with ⟨e, _⟩ | ⟨_, gy⟩
        · exact absurd e h3
        · exact h.inj x y ox oy K M gx gy h2 h4 he
  · intro r hr _
    exact hg.other r hr
  · rintro r ⟨x, ox, K, hx, hK, rfl⟩
    rcases key x K hK with ⟨rfl, rfl⟩ | ⟨h1, h2⟩
    · exact .inr (Nat.le_refl _)
    · rcases keyg x ox hx with ⟨e, _⟩ | ⟨_, gx⟩
      · exact absurd e h1
      · exact .inl ⟨x, ox, K, gx, h2, rfl⟩
  · intro x ox K hx hox hK
    have hne : x ≠ σ.next := by have := (h.dom x K hK).1; omega
    refine ⟨?_, hg.other _ (h.dom x K hK).2.2⟩
    show (σ.heap.set σ.next (some o)).get x = some ox
    rw [get_set_other _ _ _ _ hne]; exact hox
  · intro d hd
    have hne : d ≠ σ.next := fun e => by rw [e, h.next_dead] at hd; cases hd
    show (σ.heap.set σ.next (some o)).get d = some .deferred
    rw [get_set_other _ _ _ _ hne]; exact hd

/-- A living block is struck, and a new one is laid where it lay (a slice that grows in its place). -/
theorem moved_over {C : Ctx} {w0 : World} {ι : Inj} {σ : LS} {w w' : World} {b : Nat} {o o' : LObj} {L L' : Loc} {ro : Obj} (h : Sim C w0 ι σ w)
    (hg : σ.heap.get b = some o) (hL : ι b = some L) (hfl : σ.floor ≤ b) (hnd : o ≠ .deferred) (hr : L'.r = L.r)
    (ho : ObjR C.P (ι.add σ.next L') L' o' ro) (ht : Turned w w' L.r ro) :
    Moved C w0 ι σ w (ι.add σ.next L') ((σ.put b none).new o') w' := by
  have hle : ι.le (ι.add σ.next L') := Inj.add_le h.next_none
  have hdL := h.dom b L hL
  have hbn : b ≠ σ.next := by omega
  have key : ∀ x K, (ι.add σ.next L') x = some K → (x = σ.next ∧ K = L') ∨ (x ≠ σ.next ∧ ι x = some K) := by
    intro x K hx
    simp only [Inj.add] at hx
    split at hx
    · rename_i e; exact .inl ⟨e, (Option.some.inj hx).symm⟩
    · rename_i e; exact .inr ⟨e, hx⟩
  have keyg : ∀ x ox, ((σ.put b none).new o').heap.get x = some ox → (x = σ.next ∧ ox = o') ∨ (x ≠ σ.next ∧ x ≠ b ∧ σ.heap.get x = some ox) := by
    intro x ox hx
    rcases get_set _ _ _ _ _ hx with ⟨h1, h2⟩ | ⟨h1, h2⟩
    · exact .inl ⟨h1, (Option.some.inj h2).symm⟩
    · rcases get_set _ _ _ _ _ h2 with ⟨_, h3⟩ | ⟨h3, h4⟩
      · cases h3
      · exact .inr ⟨h1, h3, h4⟩
  refine ⟨hle, ⟨?_, ?_, ?_, ?_, h.ro, Nat.le_succ_of_le h.flo⟩, by show σ.next ≤ σ.next + 1; omega, by rw [ht.size]; exact Nat.le_refl _, ?_, ?_, ?_, rfl, rfl, ?_, fun x K hx => (key x K hx).elim (fun h => .inr (Nat.le_of_eq h.1.symm)) fun h => .inl h.2⟩
  · exact Below_of_frame h.below ht.os ht.tape ht.output (by rw [ht.size]; exact Nat.le_refl _) fun r hr => ht.other r (by omega)
  · intro x K hx
    rw [ht.size]
    show x < σ.next + 1 ∧ _
    rcases key x K hx with ⟨rfl, rfl⟩ | ⟨_, h2⟩
    · rw [hr]; omega
    · have := h.dom x K h2; omega
  · intro x ox hx
    rcases keyg x ox hx with ⟨rfl, rfl⟩ | ⟨h1, h2, h3⟩
    · exact ⟨_, ro, Inj.add_same _ _ _, by rw [hr]; exact ht.at_, ho⟩
    · obtain ⟨K, rx, k1, k2, k3⟩ := h.live x ox h3
      exact ⟨K, rx, hle _ _ k1, by rw [ht.other _ fun e => h2 (h.inj x b ox o K L h3 hg k1 hL e)]; exact k2, k3.mono hle⟩
  · intro x y ox oy K M hx hy hK hM he
    rcases key x K hK with ⟨rfl, rfl⟩ | ⟨h1, h2⟩ <;> rcases key y M hM with ⟨rfl, rfl⟩ | ⟨h3, h4⟩
    · rfl
    · rcases keyg y oy hy with ⟨e, _⟩ | ⟨_, e, gy⟩
      · exact absurd e h3
      · exact absurd (h.inj y b oy o M L gy hg h4 hL (by rw [← he, hr])) e
    · rcases keyg x ox hx with ⟨e, _⟩ | ⟨_, e, gx⟩
      · exact absurd e h1
      · exact absurd (h.inj x b ox o K L gx hg h2 hL (by rw [he, hr])) e
    · rcases keyg x ox hx with ⟨e, _⟩ | ⟨_, _, gx⟩
      · exact absurd e h1
      · rcases keyg y oy hy with ⟨e, _⟩ | ⟨_, _, gy⟩
        · exact absurd e h3
        · exact h.inj x y ox oy K M gx gy h2 h4 he
  · intro r _ hl
    exact ht.other r fun e => hl ⟨b, o, L, hg, hL, e.symm⟩
  · rintro r ⟨x, ox, K, hx, hK, rfl⟩
    left
    rcases key x K hK with ⟨rfl, rfl⟩ | ⟨h1, h2⟩
    · exact ⟨b, o, L, hg, hL, hr.symm⟩
    · rcases keyg x ox hx with ⟨e, _⟩ | ⟨_, _, gx⟩
      · exact absurd e h1
      · exact ⟨x, ox, K, gx, h2, rfl⟩
  · intro x ox K hx hox hK
    have hne : x ≠ σ.next := by have := (h.dom x K hK).1; omega
    have hnb : x ≠ b := by omega
    refine ⟨?_, ht.other _ fun e => hnb (h.inj x b ox o K L hox hg hK hL e)⟩
    show ((σ.heap.set b none).set σ.next (some o')).get x = some ox
    rw [get_set_other _ _ _ _ hne, get_set_other _ _ _ _ hnb]; exact hox
  · intro d hd
    have hne : d ≠ σ.next := fun e => by rw [e, h.next_dead] at hd; cases hd
    have hnb : d ≠ b := fun e => hnd (by rw [e, hg] at hd; exact Option.some.inj hd)
    show ((σ.heap.set b none).set σ.next (some o')).get d = some .deferred
    rw [get_set_other _ _ _ _ hne, get_set_other _ _ _ _ hnb]; exact hd
end Sd
