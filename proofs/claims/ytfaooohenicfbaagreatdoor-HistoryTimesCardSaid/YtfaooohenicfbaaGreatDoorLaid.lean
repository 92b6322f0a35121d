/- The listed variables: a start that holds them; the rounds' numbers. -/
import Derived.Test.YtfaooohenicfbaaGreatDoorRows
import Derived.Test.YtfaooohenicfbaaGreatDoorSha3
import Derived.Test.YtfaooohenicfbaaGreatDoorOpen
import Derived.Lib.LaidTab
import Derived.ProofKit
import Derived.LaidMore
import Derived.Lay
set_option linter.unusedVariables false
set_option linter.unusedSimpArgs false
namespace Go.Proofs.YtfaooohenicfbaaGreatDoor
open Go.RowKit Go.Deep

theorem own : ownKnob Tryz.prog.godebug = none := by kernel_rfl
theorem laidOut : laidOutB Tryz.prog = true := by kernel_rfl
abbrev lay20 : List (String × DataW Unit) := [("unicode/utf8.acceptRanges", Rows.laid_unicode_utf8_acceptRanges), ("countinghouse/sha.round", Rows.laid_countinghouse_sha_round), ("unicode/utf8.first", Rows.laid_unicode_utf8_first)]
set_option maxRecDepth 100000 in
theorem laid_met (os : Os) (args : Array Value) : laidMetH Tryz.prog lay20 ((World.laidAll Tryz.prog os lay20).forCall (fun _ _ => 0) ⟨#[], args, []⟩).memory := by
  rw [MakeChecks.laidMetH_plain _ _ _ (by kernel_rfl)]
  exact laidMet_laidAll _ (by kernel_rfl) (by kernel_rfl)
def kNums : List Int := KL.map fun (k : Nat) => (k : Int)
theorem laid_eq : (Rows.laid_countinghouse_sha_round (H := Unit)) = Lib.tabData .u32 kNums := by rfl
theorem gRound : Tryz.prog.globalNamed "countinghouse/sha.round" = some 0 := by kernel_rfl
theorem tRound : (Tryz.prog.globals[0]?).map (·.type) = some 222 := by kernel_rfl
theorem kat_of_laid {W : World} (h : laidMetH Tryz.prog lay20 W) : KAt W := by
  rw [MakeChecks.laidMetH_plain _ _ _ (by kernel_rfl)] at h
  have ht : Lib.TabIs Tryz.prog W "countinghouse/sha.round" .u32 kNums := by
    obtain ⟨ps, ⟨g0, t0, cs0, fuel0, p0, q0, _, _, _, _, ⟨g', t', cs, fuel, p, q, hg', ht', hvar, hd, _, _⟩, _⟩, _⟩ := h
    obtain rfl := Option.some.inj (gRound.symm.trans hg')
    obtain rfl := Option.some.inj (tRound.symm.trans ht')
    unfold Lib.TabIs
    rw [laid_eq] at hd
    rw [hvar, ← Lib.cells_of_tab Tryz.underlying222 Tryz.underlying163 (by kernel_rfl) (by kernel_rfl) hd]
  intro i hi
  have := World.var?_cell gRound ht i
  rw [this]
  have hl : i < KL.length := hi
  rw [List.getElem?_toArray, List.getElem?_map]
  unfold kNums
  rw [List.getElem?_map, List.getElem?_eq_getElem hl, Kc_U hi, List.getD_eq_getElem?_getD, List.getElem?_eq_getElem hl]
  rfl
theorem u8_range {n : Int} (hw : (Lit.int .u8 n).wf = true) : 0 ≤ n ∧ n ≤ 255 := by
  unfold Lit.wf at hw
  simp [IntKind.wrap, IntKind.signed, IntKind.bits] at hw
  have a := hw.1
  have b := hw.2
  simp [IntKind.min, IntKind.max, IntKind.signed, IntKind.bits] at a b
  omega
end Go.Proofs.YtfaooohenicfbaaGreatDoor
