/- The law JudgeNil: the card. -/
import Derived.Test.YtkjlipclimfoeaaGreatDoorRowJudgeNilb
set_option linter.unusedVariables false
namespace Go.Proofs.YtkjlipclimfoeaaGreatDoor
open Go
theorem judgeNil_holds : Rows.JudgeNilCardSaid :=
  Claim7.holds_tied_plain_at .later [] [.data, .data, .pinned] true Rows.judgeNilCard.stood.harness false
    judgeNil.over (fun _ h => by cases h) (by kernel_rfl) (fun _ h => by cases h) judgeNil_row_tie rfl ⟨rfl, rfl⟩ (by kernel_rfl) rfl
    (fun f fn hf hfn => by
      obtain rfl : f = 4 := Option.some.inj ((show Tryz.prog.funcNamed "countinghouse/countinghouselaw20.JudgeNil" = some 4 by kernel_rfl).symm.trans hf) |>.symm
      obtain rfl : fn = Tryz.f4 := (Option.some.inj (Tryz.func4.symm.trans hfn)).symm
      exact ⟨by kernel_rfl, fun j t ht => by
        rw [Tryz.params4] at ht
        have hm : t ∈ [3] := by have := Array.mem_of_getElem? ht; simpa using this
        have hall : ([3].all fun u => !Tryz.prog.wantsStandIn u) = true := by kernel_rfl
        exact (show Tryz.prog.wantsStandIn t = false by simpa using List.all_eq_true.1 hall t hm)⟩)
    (by kernel_rfl)
end Go.Proofs.YtkjlipclimfoeaaGreatDoor
