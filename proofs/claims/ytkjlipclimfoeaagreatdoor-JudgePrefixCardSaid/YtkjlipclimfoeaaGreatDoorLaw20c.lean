/- Laws of layer 20 (judge): JudgePrefix, whatever the input. -/
import Derived.Test.YtkjlipclimfoeaaGreatDoorLaw20b
import Derived.Test.YtkjlipclimfoeaaGreatDoorLaid
set_option linter.unusedVariables false
set_option linter.unusedSimpArgs false
namespace Go.Proofs.YtkjlipclimfoeaaGreatDoor
open Go.RowKit

set_option maxHeartbeats 1000000 in
set_option maxRecDepth 100000 in
theorem law_prefix {w : World} {F G : Nat → Prop} {D E : Option Addr} {d e1 : Nat} {a b : Bs} {p q : UInt8} (h : Rd Ty.u8 w F D a) (h2 : Rd Ty.u8 w G E b) :
    Calls Tryz.prog 3 #[.slice D a.length d, .slice E b.length e1, .int .u8 (p.toNat : Int), .int .u8 (q.toNat : Int)] w fun e w' => e = .returned (.bool true) ∧ Fr No w w' := by
  by_cases ha : a.length ≤ 20
  · by_cases hb : b.length ≤ 20
    · exact law_prefix_ok h h2 ha hb
    · have hai : (a.length : Int) ≤ 20 := by omega
      have hbi : (20 : Int) < (b.length : Int) := by omega
      have HB := Lib.hid fun w : World => stands_ok (w := w)
      clear h h2 ha hb
      go_enter Tryz.func3, Tryz.ntmps3
      go_wp2_with fail
      refine (HB.out _).mono ?_
      rintro e w1 ⟨rfl, hf1⟩
      have H1 := Lib.hid hf1
      clear hf1
      go_wp2_with fail
      refine (HB.out _).mono ?_
      rintro e w2 ⟨rfl, hf2⟩
      have H2 := Lib.hid (H1.out.next hf2 (fun _ _ f => f.elim))
      clear hf2
      go_wp2_with fail
      go_ret
      exact ⟨rfl, H2.out⟩
  · have hai : (20 : Int) < (a.length : Int) := by omega
    have HB := Lib.hid fun w : World => stands_ok (w := w)
    clear h h2 ha
    go_enter Tryz.func3, Tryz.ntmps3
    go_wp2_with fail
    refine (HB.out _).mono ?_
    rintro e w1 ⟨rfl, hf1⟩
    have H1 := Lib.hid hf1
    clear hf1
    go_wp2_with fail
    refine (HB.out _).mono ?_
    rintro e w2 ⟨rfl, hf2⟩
    have H2 := Lib.hid (H1.out.next hf2 (fun _ _ f => f.elim))
    clear hf2
    go_wp2_with fail
    go_ret
    exact ⟨rfl, H2.out⟩
theorem law_prefix_int {w : World} {F G : Nat → Prop} {D E : Option Addr} {d e1 : Nat} {a b : Bs} (x y : Int) (hx : (Lit.int .u8 x).wf = true) (hy : (Lit.int .u8 y).wf = true) (h : Rd Ty.u8 w F D a) (h2 : Rd Ty.u8 w G E b) :
    Calls Tryz.prog 3 #[.slice D a.length d, .slice E b.length e1, .int .u8 x, .int .u8 y] w fun e w' => e = .returned (.bool true) ∧ Fr No w w' := by
  obtain ⟨p, rfl⟩ := u8_of_wf hx
  obtain ⟨q, rfl⟩ := u8_of_wf hy
  exact law_prefix h h2
end Go.Proofs.YtkjlipclimfoeaaGreatDoor
