import Derived.Test.YtfklihbkflblmaaGreatDoorRows
import Derived.Test.YtfklihbkflblmaaGreatDoorSdSeat4
import Derived.Test.YtfklihbkflblmaaGreatDoorSdSeatF
import Derived.ProofKit
import Derived.LaidMore
import Derived.OpenShut
import Derived.Stop.Joined
import Derived.Lib.LaidTab
import Derived.Stop.LaidErr
import Derived.Carry
set_option linter.all false
open Go Go.Proofs Go.Proofs.YtfklihbkflblmaaGreatDoor
set_option maxRecDepth 100000
namespace Sd
open Go.ChangeShapes Go.WideShapes Go.ChangeAt Go.RowKit

theorem own : ownKnob Tryz.prog.godebug = none := by kernel_rfl

/-! the tables -/
theorem ro_at {w : World} {r : Nat} {a : Array Value} {vals : List Value} (hcs : a.toList = vals) (hf : allFlat vals = true) (hv : ∃ cs e fz, w.heap[r]? = some (.cells cs e fz) ∧ cs = a) :
    ∃ cs e fz, w.heap[r]? = some (.cells cs e fz) ∧ ∀ i v, (rowT vals).get i = some v → ∃ v', cs[i]? = some v' ∧ ∀ ι, VR ι v v' := by
  obtain ⟨cs, e, fz, h1, rfl⟩ := hv
  refine ⟨cs, e, fz, h1, fun i v hi => ?_⟩
  have hg := get_rowT _ _ _ hi
  subst hcs
  rw [Array.getElem?_toList] at hg
  refine ⟨v, hg, fun ι => .of_flat ?_⟩
  have hm : v ∈ cs.toList := by simpa using Array.mem_of_getElem? hg
  clear hi hg h1
  generalize cs.toList = l at hf hm
  induction l with
  | nil => cases hm
  | cons x l ih =>
    simp only [allFlat] at hf
    split at hf
    · rename_i hx
      rcases List.mem_cons.1 hm with rfl | hm
      · exact hx
      · exact ih hf hm
    · cases hf
theorem var_heap {P : Program} {w : World} {name : String} {g : Nat} {cs : Array Value} (hg : P.globalNamed name = some g) (h : w.var? P name = some cs) : ∃ cs' e fz, w.heap[g]? = some (.cells cs' e fz) ∧ cs' = cs := by
  unfold World.var? at h
  rw [hg] at h
  simp only [Option.bind_some] at h
  split at h
  · rename_i c e fz hc; cases h; exact ⟨_, _, _, hc, rfl⟩
  · cases h
theorem g0 : Tryz.prog.globalNamed "sediment/disk.order" = some 0 := by kernel_rfl
theorem g2 : Tryz.prog.globalNamed "sediment/digest.first" = some 2 := by kernel_rfl
theorem g3 : Tryz.prog.globalNamed "sediment/digest.rounds" = some 3 := by kernel_rfl
theorem g4 : Tryz.prog.globalNamed "sediment/crc.halves" = some 4 := by kernel_rfl
theorem tabOf {name : String} {g : Nat} {zs : List Int} {t e : TypeId} {n : Nat} {W : World} {rest : List (String × DataW Unit)}
    (hg : Tryz.prog.globalNamed name = some g) (hty : (Tryz.prog.globals[g]?).map (·.type) = some t) (ht : Tryz.prog.underlying t = some (.array n e)) (he : Tryz.prog.underlying e = some (.int .u32)) (hce : Tryz.prog.cellsOf e = 1) (hct : Tryz.prog.cellsOf t = n)
    (h : laidMet Tryz.prog ((name, Lib.tabData .u32 zs) :: rest) W) (hf : allFlat (u32s zs) = true) :
    ∃ cs e fz, W.heap[g]? = some (.cells cs e fz) ∧ ∀ i v, (rowT (u32s zs)).get i = some v → ∃ v', cs[i]? = some v' ∧ ∀ ι, VR ι v v' := by
  have h1 := Lib.tabIs_of_head hg hty ht he hce hct h
  exact ro_at (a := (zs.map fun z => Value.int .u32 z).toArray) (by simp [u32s]) hf (var_heap hg h1)
theorem cells_of_strs {H : Type} {enc : TypeId × Value → H} {P : Program} {w : World} {base : Nat} {sp : Nat → Bool} {held : Bool} {fuel : Nat} {t e : TypeId} {n : Nat} {cs : List Value} {bs : List ByteArray} {d : DataW H} {p : List MemPlace}
    (ht : P.underlying t = some (.array n e)) (he : P.underlying e = some .string) (hce : P.cellsOf e = 1) (hct : P.cellsOf t = n)
    (hd : d = .agg (bs.map fun s => .lit (.string s.data.toList))) (h : DataW.trod enc P w base sp held fuel t cs = some (d, p)) : cs = bs.map Value.string := by
  subst hd
  obtain ⟨xs, m, _, hx, hl, hn, hel⟩ := DataW.trod_array ht h
  rw [hct] at hl
  simp only [Prod.mk.injEq, DataW.agg.injEq] at hx
  have hbl : bs.length = n := by
    have := congrArg List.length hx.1
    simp at this
    omega
  apply List.ext_getElem?
  intro i
  by_cases hi : i < n
  · have h1 := hel i hi
    rw [hce, Nat.mul_one] at h1
    obtain ⟨x, hx2⟩ : ∃ x, xs[i]? = some x := ⟨xs[i]'(by omega), List.getElem?_eq_getElem _⟩
    rw [hx2] at h1
    obtain ⟨s, hc, hxs, _⟩ := DataW.trod_string he h1
    have h2 : cs[i]? = some (.string s) := by
      have := congrArg (·[0]?) hc
      simpa [List.getElem?_take, List.getElem?_drop] using this
    have h3 := congrArg (·[i]?) hx.1
    simp only [List.getElem?_map, hx2, hxs, Option.map_some] at h3
    obtain ⟨b, hb⟩ : ∃ b, bs[i]? = some b := ⟨bs[i]'(by omega), List.getElem?_eq_getElem _⟩
    rw [hb] at h3
    simp only [Option.map_some, Option.some.injEq, DataW.lit.injEq, Lit.string.injEq] at h3
    have : b = s := by
      obtain ⟨⟨x⟩⟩ := b
      obtain ⟨⟨y⟩⟩ := s
      simp only at h3
      rw [h3]
    simp [h2, hb, this]
  · rw [List.getElem?_eq_none (by omega), List.getElem?_eq_none (by simp; omega)]
theorem roOK {W : World} (h : laidMetH Tryz.prog Rows.storeNoneRow.laid W) : RoOK (ctx B []) W := by
  rw [MakeChecks.laidMetH_plain _ _ _ (by kernel_rfl)] at h
  have h4 : laidMet Tryz.prog (("sediment/crc.halves", Lib.tabData .u32 halvesL) :: _) W := h
  have h3 : laidMet Tryz.prog (("sediment/digest.rounds", Lib.tabData .u32 roundsL) :: _) W := laidMet.tail h
  have h2 : laidMet Tryz.prog (("sediment/digest.first", Lib.tabData .u32 firstL) :: _) W := laidMet.tail (laidMet.tail h)
  have h0 : laidMet Tryz.prog [("sediment/disk.order", Rows.laid_sediment_disk_order)] W := laidMet.tail (laidMet.tail (laidMet.tail h))
  have k4 := tabOf g4 (t := 355) (e := 235) (n := 16) (by kernel_rfl) (by kernel_rfl) (by kernel_rfl) (by kernel_rfl) (by kernel_rfl) h4 (by kernel_rfl)
  have k3 := tabOf g3 (t := 284) (e := 235) (n := 64) (by kernel_rfl) (by kernel_rfl) (by kernel_rfl) (by kernel_rfl) (by kernel_rfl) h3 (by kernel_rfl)
  have k2 := tabOf g2 (t := 236) (e := 235) (n := 8) (by kernel_rfl) (by kernel_rfl) (by kernel_rfl) (by kernel_rfl) (by kernel_rfl) h2 (by kernel_rfl)
  have k0 : ∃ cs e fz, W.heap[0]? = some (.cells cs e fz) ∧ ∀ i v, (rowT orderL).get i = some v → ∃ v', cs[i]? = some v' ∧ ∀ ι, VR ι v v' := by
    obtain ⟨ps, ⟨g', t', cs, fuel, p, q, hg', ht', hvar, hd, _, _⟩, _⟩ := h0
    obtain rfl := Option.some.inj ((show (Tryz.prog.globals[0]?).map (·.type) = some 83 by kernel_rfl).symm.trans (by rw [Option.some.inj (g0.symm.trans hg')]; exact ht'))
    have := cells_of_strs (n := 3) (e := 9) (bs := ["loose".toUTF8, "pack".toUTF8, "ref".toUTF8]) (by kernel_rfl) (by kernel_rfl) (by kernel_rfl) (by kernel_rfl) rfl hd
    exact ro_at this (by kernel_rfl) (var_heap g0 hvar)
  intro r c hc
  have hc : mkRo r = some c := hc
  unfold mkRo at hc
  split at hc
  · cases hc; exact k0
  · cases hc; exact k2
  · cases hc; exact k3
  · cases hc; exact k4
  · cases hc

/-! the argument -/
theorem tok_int_ok {P : Program} {w : World} {b : Nat} {u : TypeId} {v : Value} (hu : P.underlying u = some (.int .i64)) (h : Cell.okWide P w .any b u v) : hasTok 1 v = true := by
  unfold Cell.okWide at h
  rw [hu] at h
  have h : Cell.ok P w .any b u v := by cases v <;> exact h
  unfold Cell.ok at h
  rw [hu] at h
  cases v <;> simp_all [hasTok]
theorem tok_string_ok {P : Program} {w : World} {b : Nat} {u : TypeId} {v : Value} (hu : P.underlying u = some .string) (h : Cell.okWide P w .any b u v) : hasTok 2 v = true := by
  unfold Cell.okWide at h
  rw [hu] at h
  have h : Cell.ok P w .any b u v := by cases v <;> exact h
  unfold Cell.ok at h
  rw [hu] at h
  cases v <;> simp_all [hasTok]
theorem tok_bool_ok {P : Program} {w : World} {b : Nat} {u : TypeId} {v : Value} (hu : P.underlying u = some .bool) (h : Cell.okWide P w .any b u v) : hasTok 3 v = true := by
  unfold Cell.okWide at h
  rw [hu] at h
  have h : Cell.ok P w .any b u v := by cases v <;> exact h
  unfold Cell.ok at h
  rw [hu] at h
  cases v <;> simp_all [hasTok]
theorem tok_slice_ok {P : Program} {w : World} {b : Nat} {u e : TypeId} {v : Value} (hu : P.underlying u = some (.slice e)) (h : Cell.okWide P w .any b u v) : hasTok 4 v = true := by
  unfold Cell.okWide at h
  rw [hu] at h
  have h : Cell.ok P w .any b u v := by cases v <;> exact h
  unfold Cell.ok at h
  rw [hu] at h
  cases v <;> simp_all [hasTok]
theorem act_ok {W : World} {b : Nat} {v : Value} (h : Value.okWide Tryz.prog W .any b 36 v) : VL (fun _ => none) [.agg #[tk 1, tk 1, tk 1, tk 2, tk 1, tk 2, tk 3, tk 4]] [v] := by
  unfold Value.okWide at h
  rw [Tryz.underlying36] at h
  obtain ⟨cs, rfl, hsz, ts, hts, _, hall⟩ := h
  rw [show Tryz.prog.cellsOf 36 = 8 by kernel_rfl] at hsz
  obtain rfl := Option.some.inj ((show Tryz.prog.cellTypes Tryz.prog.depth 36 = some [3, 3, 3, 9, 3, 9, 4, 34] by kernel_rfl).symm.trans hts)
  obtain ⟨l⟩ := cs
  match l, hsz with
  | [c0, c1, c2, c3, c4, c5, c6, c7], _ =>
    have e0 := hall 0 c0 rfl
    have e1 := hall 1 c1 rfl
    have e2 := hall 2 c2 rfl
    have e3 := hall 3 c3 rfl
    have e4 := hall 4 c4 rfl
    have e5 := hall 5 c5 rfl
    have e6 := hall 6 c6 rfl
    have e7 := hall 7 c7 rfl
    obtain ⟨u0, hu0, k0⟩ := e0
    obtain ⟨u1, hu1, k1⟩ := e1
    obtain ⟨u2, hu2, k2⟩ := e2
    obtain ⟨u3, hu3, k3⟩ := e3
    obtain ⟨u4, hu4, k4⟩ := e4
    obtain ⟨u5, hu5, k5⟩ := e5
    obtain ⟨u6, hu6, k6⟩ := e6
    obtain ⟨u7, hu7, k7⟩ := e7
    cases hu0; cases hu1; cases hu2; cases hu3; cases hu4; cases hu5; cases hu6; cases hu7
    have i3 : Tryz.prog.underlying 3 = some (.int .i64) := by kernel_rfl
    have i9 : Tryz.prog.underlying 9 = some .string := by kernel_rfl
    have i4 : Tryz.prog.underlying 4 = some .bool := by kernel_rfl
    refine .cons (.agg' ?_) .nil
    exact .cons (.tok (tok_int_ok i3 k0)) (.cons (.tok (tok_int_ok i3 k1)) (.cons (.tok (tok_int_ok i3 k2)) (.cons (.tok (tok_string_ok i9 k3)) (.cons (.tok (tok_int_ok i3 k4)) (.cons (.tok (tok_string_ok i9 k5)) (.cons (.tok (tok_bool_ok i4 k6)) (.cons (.tok (tok_slice_ok (e := 104) (by kernel_rfl) k7)) .nil)))))))

/-! the row -/
theorem door_met (os : Os) (args : Array Value) : laidMetH Tryz.prog Rows.storeNoneRow.laid ((World.doorLaid Tryz.prog 400 os).forCall (fun _ _ => 0) ⟨#[], args, []⟩).memory :=
  laidMetH_of_parts3 (fuel := 8) (laidMet_of_run' 8 (by kernel_rfl) (by kernel_rfl)) (by kernel_rfl) (by kernel_rfl)
theorem none_calls {W : World} {b : Nat} {v : Value} (hl : laidMetH Tryz.prog Rows.storeNoneRow.laid W) (h : Value.okWide Tryz.prog W .any b 36 v) :
    Calls Tryz.prog 6 #[v] W fun e W' => e = .returned (.bool true) ∧ Below W.heap.size W W' :=
  calls_of_run baseOK hAlive none_run (roOK hl) (act_ok h)
theorem lifted (os : Os) (started : os.Started) (H : Type) (enc : TypeId × Value → H) :
    ReturnsInHanded {} Tryz.checked os 6 .any (fun w args => (Rows.storeNoneSpec.pre enc Tryz.prog Tryz.f6 [] false w args ∧ laidMetH Tryz.prog Rows.storeNoneRow.laid w) ∧ sizedMet enc Tryz.prog Tryz.f6 (OpenSpec.ofChange Rows.storeNoneSpec) false w args)
      (Rows.storeNoneSpec.post enc Tryz.prog Tryz.f6 false true false false) := by
  refine returnsInHanded_of_change_and (C := Tryz.checked) (X := fun w _ => laidMetH Tryz.prog Rows.storeNoneRow.laid w) (fun _ _ _ hh h => h.of_heap hh) own started (by kernel_rfl) Tryz.func6
    (ChangeSpec.witness_shaped (enc := enc) (C := Tryz.checked) (os := os) (X := fun w _ => laidMetH Tryz.prog Rows.storeNoneRow.laid w) false (World.doorLaid Tryz.prog 400 os) #[.agg #[.int .i64 0, .int .i64 0, .int .i64 0, .string ⟨#[]⟩, .int .i64 0, .string ⟨#[]⟩, .bool false, .slice none 0 0]] 8 rfl (World.shaped_of_RefB (by kernel_rfl) (by kernel_rfl)) (by kernel_rfl) (by kernel_rfl) (by kernel_rfl) (door_met os _)) ?_
  intro W base args ds gs before hval0 hW _ _ hL _
  have hval : ∀ (j : Nat) t v, Tryz.f6.params[j]? = some t → args[j]? = some v → Value.okWide Tryz.prog W .any base t v := hval0
  have hW' := hW
  obtain ⟨p, q, hA0, hV, rfl, hfz, hnd⟩ := hW
  have hA : DataW.TrodAll enc Tryz.prog W 0 (fun _ => true) true Tryz.f6.params.toList args.toList ds p := hA0
  rw [Tryz.params6] at hA hval
  obtain ⟨v0, d0, rfl, rfl, h0⟩ := trodAll_one hA
  obtain ⟨rfl, rfl⟩ := trodVars_none hV
  simp only [List.append_nil] at hW'
  refine (none_calls hL (hval 0 36 v0 rfl rfl)).mono ?_
  rintro e W' ⟨rfl, hb⟩
  have hlt : ∀ x ∈ p, x.block < W.heap.size := fun x hx => by simpa using hW'.lt x hx
  exact ⟨_, rfl, ⟨_, _, _, [], _, [], hW', trodAll_mk1 (shut_bool Tryz.underlying4 _), trodAll_mk1 (Below.trod laidOut (by kernel_rfl) (of_decide_eq_true (by kernel_rfl)) h0 hb hlt), rfl, hb.frame _, fun h => by cases h⟩⟩
theorem none_holds : Rows.StoreNoneSaid :=
  OpenClaim.holds_of_wide 6 Tryz.f6 rfl rfl rfl rfl rfl rfl rfl ⟨rfl, rfl, rfl, rfl, rfl⟩ rfl rfl rfl rfl rfl (by kernel_rfl) Tryz.func6 facts
    (of_decide_eq_true (by kernel_rfl)) (by unfold Func.isWrapper; first | (rw [if_pos (by decide +kernel)]; kernel_rfl) | (rw [if_neg (by decide +kernel)]; exact ⟨rfl, rfl⟩))
    (fun os started H enc _ => lifted os started H enc)
end Sd
