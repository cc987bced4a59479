/- THE TIED CARD OF 'carrellaw12.CheckFolds': of any two numbers of 32 bits, the law returns true; the package variables that it lists hold what the program's text says. Conditions: the row's own. -/
import Derived.Test.YtokbomdlodainaaGreatDoorProofs
import Derived.Test.YtokbomdlodainaaGreatDoorTie
import Derived.Test.YtokbomdlodainaaGreatDoorCards
import Derived.SevenTiedAt
set_option linter.all false
namespace Go.Proofs.YtokbomdlodainaaGreatDoor.checkFolds
open Go

theorem card_holds : Rows.CheckFoldsCardSaid :=
  Claim7.holds_tied_plain_at .later [] [.data, .data, .data, .data, .sentinel, .sentinel, .pinned, .pinned] true (true, "b84c54b4d3d3f8a216dc8ca8d6b4f86ff7df3fcdbf5fab49c931dcf4342c9006") true
    proved (fun _ h => by cases h) (by kernel_rfl) (fun _ h => by cases h) checkFolds_row_tie rfl ⟨rfl, rfl⟩ (by kernel_rfl) rfl
    (fun f fn hf hfn => by
      obtain rfl : f = 3 := Option.some.inj ((show Tryz.prog.funcNamed "carrel/carrellaw12.CheckFolds" = some 3 by kernel_rfl).symm.trans hf) |>.symm
      obtain rfl : fn = Tryz.f3 := (Option.some.inj (Tryz.func3.symm.trans hfn)).symm
      exact ⟨by kernel_rfl, fun j t ht => by
        rw [Tryz.params3] at ht
        have hm : t ∈ [21] := by simpa using Array.mem_of_getElem? ht
        have hall : ([21].all fun u => !Tryz.prog.wantsStandIn u) = true := by kernel_rfl
        exact (show Tryz.prog.wantsStandIn t = false by simpa using List.all_eq_true.1 hall t hm)⟩)
    (by kernel_rfl)
#print axioms card_holds
end Go.Proofs.YtokbomdlodainaaGreatDoor.checkFolds
