/- What is proved: StoreNone of sedimentlaw21 returns true for every input, and the input reads behind the call as it read before. Conditions: the four listed tables (crc.halves, digest.rounds, digest.first, disk.order) hold what the program's text lays in them when the call begins (the card ties that to the text); nothing else. The road: a run of the program in the kernel, by an evaluator that is proved against the model (SdEval to SdMemo), with the argument's parts unknown. -/
import Derived.Test.YtfklihbkflblmaaGreatDoorTie
import Derived.Test.YtfklihbkflblmaaGreatDoorCards
import Derived.Test.YtfklihbkflblmaaGreatDoorSdSeat5
import Derived.SevenTiedAt
set_option linter.all false
set_option maxRecDepth 100000
namespace Go.Proofs.YtfklihbkflblmaaGreatDoor
open Go
theorem card_wf : Rows.storeNoneRow.wfByText (OpenSpec.ofChange Rows.storeNoneSpec) = true := by kernel_rfl
theorem card_main : Tryz.prog.mainIs = some (true, "b39ca57e2ab669651f6ff0ba6f15d613217dbb6f098d3d827e29c4a2443a4c5c".toList) := by kernel_rfl
theorem card_named : Tryz.prog.funcNamed "sediment/sedimentlaw21.StoreNone" = some 6 := by kernel_rfl
theorem card_looks : true = Tryz.prog.looks [] := by kernel_rfl
theorem card_wants : ([36].all fun u => !Tryz.prog.wantsStandIn u) = true := by kernel_rfl
theorem card_goes : false = Rows.storeNoneRow.goesBy Tryz.prog := by kernel_rfl
theorem none_card : Rows.StoreNoneCardSaid :=
  Claim7.holds_tied_plain_at .later [] [.data, .data, .data, .data] true (true, "b39ca57e2ab669651f6ff0ba6f15d613217dbb6f098d3d827e29c4a2443a4c5c") true
    Sd.none_holds (fun _ h => by cases h) card_wf (fun _ h => by cases h) storeNone_row_tie rfl ⟨rfl, rfl⟩ card_main rfl
    (fun f fn hf hfn => by
      obtain rfl : f = 6 := Option.some.inj (card_named.symm.trans hf) |>.symm
      obtain rfl : fn = Tryz.f6 := (Option.some.inj (Tryz.func6.symm.trans hfn)).symm
      exact ⟨card_looks, fun j t ht => by
        rw [Tryz.params6] at ht
        have hm : t ∈ [36] := by simpa using Array.mem_of_getElem? ht
        exact (show Tryz.prog.wantsStandIn t = false by simpa using List.all_eq_true.1 card_wants t hm)⟩)
    card_goes
#print axioms none_card
end Go.Proofs.YtfklihbkflblmaaGreatDoor
