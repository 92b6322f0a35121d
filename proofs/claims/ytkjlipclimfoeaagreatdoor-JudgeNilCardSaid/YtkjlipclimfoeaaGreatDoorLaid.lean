/- The listed variables: a start that holds them; what the arguments read as. -/
import Derived.Test.YtkjlipclimfoeaaGreatDoorRows
import Derived.Test.YtkjlipclimfoeaaGreatDoorOpen
import Derived.ProofKit
import Derived.LaidMore
import Derived.Lay
set_option linter.unusedVariables false
set_option linter.unusedSimpArgs false
namespace Go.Proofs.YtkjlipclimfoeaaGreatDoor
open Go.RowKit Go.Deep

theorem own : ownKnob Tryz.prog.godebug = none := by kernel_rfl
theorem laidOut : laidOutB Tryz.prog = true := by kernel_rfl
abbrev lay20 : List (String × DataW Unit) := [("unicode/utf8.acceptRanges", Rows.laid_unicode_utf8_acceptRanges), ("countinghouse/sha.round", Rows.laid_countinghouse_sha_round), ("unicode/utf8.first", Rows.laid_unicode_utf8_first)]
set_option maxRecDepth 100000 in
theorem laid_met (os : Os) (args : Array Value) : laidMetH Tryz.prog lay20 ((World.laidAll Tryz.prog os lay20).forCall (fun _ _ => 0) ⟨#[], args, []⟩).memory := by
  rw [MakeChecks.laidMetH_plain _ _ _ (by kernel_rfl)]
  exact laidMet_laidAll _ (by kernel_rfl) (by kernel_rfl)
theorem opens_bytes : Opens Tryz.prog (Ty.slice Ty.u8) 22 := Opens.slice (Opens.u8 (by kernel_rfl) Tryz.underlying5) (by kernel_rfl) Tryz.underlying22
theorem u8_of_wf {n : Int} (hw : (Lit.int .u8 n).wf = true) : ∃ q : UInt8, n = (q.toNat : Int) := by
  have h1 : 0 ≤ n ∧ n ≤ 255 := by
    unfold Lit.wf at hw
    simp [IntKind.wrap, IntKind.signed, IntKind.bits] at hw
    have a := hw.1
    have b := hw.2
    simp [IntKind.min, IntKind.max, IntKind.signed, IntKind.bits] at a b
    omega
  refine ⟨UInt8.ofNat n.toNat, ?_⟩
  rw [UInt8.toNat_ofNat']
  omega

end Go.Proofs.YtkjlipclimfoeaaGreatDoor
