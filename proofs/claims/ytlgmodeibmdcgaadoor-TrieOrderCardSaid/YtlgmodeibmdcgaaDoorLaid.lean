/- The listed variable: the rounds' numbers. -/
import Derived.Test.YtlgmodeibmdcgaaDoorRows
import Derived.Test.YtlgmodeibmdcgaaDoorSha3
import Derived.Lib.LaidTab
import Derived.ProofKit
import Derived.LaidMore
set_option linter.unusedVariables false
namespace Go.Proofs.YtlgmodeibmdcgaaDoor
open Go.RowKit

def kNums : List Int := KL.map fun (k : Nat) => (k : Int)
theorem laid_eq : (Rows.laid_countinghouse_sha_round (H := Unit)) = Lib.tabData .u32 kNums := by rfl
theorem own : ownKnob Tryd.prog.godebug = none := by kernel_rfl
theorem laidOut : laidOutB Tryd.prog = true := by kernel_rfl
theorem gRound : Tryd.prog.globalNamed "countinghouse/sha.round" = some 0 := by kernel_rfl
theorem tRound : (Tryd.prog.globals[0]?).map (·.type) = some 72 := by kernel_rfl
abbrev lay9 {H : Type} : List (String × DataW H) := [("countinghouse/sha.round", Rows.laid_countinghouse_sha_round)]
theorem door_met (os : Os) (args : Array Value) : laidMetH Tryd.prog lay9 ((World.doorLaid Tryd.prog 400 os).forCall (fun _ _ => 0) ⟨#[], args, []⟩).memory :=
  laidMetH_of_parts3 (fuel := 8) (laidMet_of_run' 8 (by kernel_rfl) (by kernel_rfl)) (by kernel_rfl) (by kernel_rfl)
theorem kat_of_laid {W : World} (h : laidMetH Tryd.prog lay9 W) : KAt W := by
  rw [MakeChecks.laidMetH_plain _ _ _ (by kernel_rfl)] at h
  have ht : Lib.TabIs Tryd.prog W "countinghouse/sha.round" .u32 kNums :=
    Lib.tabIs_of_head (rest := []) gRound tRound Tryd.underlying72 Tryd.underlying71 (by kernel_rfl) (by kernel_rfl) (laid_eq ▸ h)
  intro i hi
  have := World.var?_cell gRound ht i
  rw [this]
  have hl : i < KL.length := hi
  rw [List.getElem?_toArray, List.getElem?_map]
  unfold kNums
  rw [List.getElem?_map, List.getElem?_eq_getElem hl, Kc_U hi, List.getD_eq_getElem?_getD, List.getElem?_eq_getElem hl]
  rfl
end Go.Proofs.YtlgmodeibmdcgaaDoor
