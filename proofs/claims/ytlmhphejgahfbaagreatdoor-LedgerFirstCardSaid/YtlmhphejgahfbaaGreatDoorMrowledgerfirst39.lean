/- Texts of this claim, one behind the other: RowF. -/
import Derived.KernelRfl
import Derived.ChangeSame
import Derived.Test.YtlmhphejgahfbaaGreatDoorMrowledgerfirst2
import Derived.Test.YtlmhphejgahfbaaGreatDoorMrowledgerfirstKLawFirst
/- LedgerFirst: its arguments opened. -/
set_option linter.unusedVariables false
set_option linter.unusedSimpArgs false
namespace Go.Proofs.YtlmhphejgahfbaaGreatDoor
open Go.RowKit Go.Deep Go.ChangeShapes

theorem opens_bytes : Opens Tryz.prog (Ty.slice Ty.u8) 46 := Opens.slice (Opens.u8 (by kernel_rfl) Tryz.underlying5) (by kernel_rfl) Tryz.underlying46
theorem opens_frm : Opens Tryz.prog tFrm 89 := by
  have o5 : Opens Tryz.prog Ty.u8 5 := Opens.u8 (by kernel_rfl) Tryz.underlying5
  have hc : Tryz.prog.cellsOf 89 = 2 := by kernel_rfl
  refine ⟨hc, fun H enc w base spare held fuel cs x h => ?_⟩
  obtain ⟨y0, y1, n, rfl, hl, h0, h1⟩ := trod_struct2 Tryz.underlying89 h
  rw [hc] at hl
  simp only [o5.1, opens_bytes.1] at h0 h1
  match cs, hl with
  | [c0, c1], _ =>
    obtain ⟨v0, e0⟩ := opens_bytes.2 _ _ _ _ _ _ _ _ _ h0
    obtain ⟨v1, e1⟩ := o5.2 _ _ _ _ _ _ _ _ _ h1
    exact ⟨⟨v0, v1⟩, [c0], [c1], rfl, e0, e1⟩
theorem opens_frms : Opens Tryz.prog (Ty.slice tFrm) 45 := Opens.slice opens_frm (by kernel_rfl) Tryz.underlying45
theorem law_first_row {w : World} {R1 R2 R3 : Nat → Prop} {A1 A2 A3 : Option Addr} {c1 c2 c3 : Nat} {l : List Frm} {t : Int} {a b : Bs} (together order : Bool) (h1 : Rd tFrm w R1 A1 l) (hc1 : l.length ≤ c1) (ht : 0 ≤ t ∧ t ≤ 255) (h2 : Rd Ty.u8 w R2 A2 a) (hc2 : a.length ≤ c2) (h3 : Rd Ty.u8 w R3 A3 b) (hc3 : b.length ≤ c3) (hk : KAt w) :
    Calls Tryz.prog 4 #[.slice A1 l.length c1, .int .u8 t, .slice A2 a.length c2, .slice A3 b.length c3, .bool together, .bool order] w fun e w' => e = .returned (.bool true) ∧ Fr No w w' := by
  have e : t = ((UInt8.ofNat t.toNat).toNat : Int) := by rw [UInt8.toNat_ofNat']; omega
  rw [e]
  exact law_first together order h1 hc1 h2 hc2 h3 hc3 hk
end Go.Proofs.YtlmhphejgahfbaaGreatDoor
