import Derived.Test.YtfklihbkflblmaaGreatDoorRows
import Derived.JoinedOf
import Derived.Below
import Derived.KernelRfl
set_option linter.all false
open Go Go.Proofs Go.Proofs.YtfklihbkflblmaaGreatDoor
set_option maxRecDepth 100000
namespace Sd
theorem laidOut : laidOutB Tryz.prog = true := by kernel_rfl
theorem j1 : Rows.storeNoneRow.wf (OpenSpec.ofChange Rows.storeNoneSpec) = true := by kernel_rfl
theorem j2 : laidOutB Tryz.prog = true := laidOut
theorem j3 : mapsRowed Tryz.prog = true := by kernel_rfl
theorem j4 : Tryz.f6.params.all (Tryz.prog.readableRec ·) = true := by kernel_rfl
theorem j5 : namedTie Tryz.prog Rows.storeNoneRow.named Rows.storeNoneSpec.vars = true := by kernel_rfl
theorem j6 : (Tryz.prog.stops == []) = true := by kernel_rfl
theorem j7 : (Tryz.prog.stopKnobs == []) = true := by kernel_rfl
theorem j8 : (Rows.storeNoneRow.inPlace == Tryz.prog.inPlace 6) = true := by kernel_rfl
theorem j9 : (Rows.storeNoneRow.unfollowed == Tryz.prog.unfollowed 6) = true := by kernel_rfl
theorem j10 : (Rows.storeNoneRow.recurses == Tryz.prog.recurses 6) = true := by kernel_rfl
theorem j11 : (Rows.storeNoneRow.named == Tryz.prog.varsNamed 6) = true := by kernel_rfl
theorem j12 : (Rows.storeNoneRow.plainKeys == Tryz.prog.plainKeys) = true := by kernel_rfl
theorem j13 : Tryz.prog.stopsHeard = true := by kernel_rfl
theorem j14 : Tryz.prog.mayEnter = true := by kernel_rfl
theorem j15 : (Rows.storeNoneRow.lifted == Tryz.prog.liftsFinal) = true := by kernel_rfl
theorem j16 : (Tryz.prog.make == some Rows.storeNoneRow.make) = true := by kernel_rfl
theorem band {a b : Bool} (h : a = true) (k : b = true) : (a && b) = true := by rw [h, k]; rfl
theorem facts : joinedFacts Tryz.prog 6 Tryz.f6 Rows.storeNoneSpec Rows.storeNoneRow = true := by
  unfold joinedFacts
  repeat' (with_reducible refine band ?_ ?_)
  all_goals first
    | with_reducible exact j1
    | with_reducible exact j2
    | with_reducible exact j3
    | with_reducible exact j4
    | with_reducible exact j5
    | with_reducible exact j6
    | with_reducible exact j7
    | with_reducible exact j8
    | with_reducible exact j9
    | with_reducible exact j10
    | with_reducible exact j11
    | with_reducible exact j12
    | with_reducible exact j13
    | with_reducible exact j14
    | with_reducible exact j15
    | with_reducible exact j16
    | kernel_rfl
end Sd
