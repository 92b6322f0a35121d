/- Texts of this claim, one behind the other: RowD. -/
import Derived.KernelRfl
import Derived.ChangeSame
import Derived.Test.YtlmhphejgahfbaaGreatDoorMrowledgerdeletes12
import Derived.Test.YtlmhphejgahfbaaGreatDoorMrowledgerdeletesKLawDel
/- LedgerDeletes: its arguments opened. -/
set_option linter.unusedVariables false
set_option linter.unusedSimpArgs false
namespace Go.Proofs.YtlmhphejgahfbaaGreatDoor
open Go.RowKit Go.Deep Go.ChangeShapes

theorem law_deletes_row {w : World} {R1 R2 : Nat → Prop} {A1 A2 : Option Addr} {c1 c2 : Nat} {l : List Frm} {t : Int} {a : Bs} (h1 : Rd tFrm w R1 A1 l) (hc1 : l.length ≤ c1) (ht : 0 ≤ t ∧ t ≤ 255) (h2 : Rd Ty.u8 w R2 A2 a) (hc2 : a.length ≤ c2) (hk : KAt w) :
    Calls Tryz.prog 5 #[.slice A1 l.length c1, .int .u8 t, .slice A2 a.length c2] w fun e w' => e = .returned (.bool true) ∧ Fr No w w' := by
  have e : t = ((UInt8.ofNat t.toNat).toNat : Int) := by rw [UInt8.toNat_ofNat']; omega
  rw [e]
  exact law_deletes h1 hc1 h2 hc2 hk
end Go.Proofs.YtlmhphejgahfbaaGreatDoor
