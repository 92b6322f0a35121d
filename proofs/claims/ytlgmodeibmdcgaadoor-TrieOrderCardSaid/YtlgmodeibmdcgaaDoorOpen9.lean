/- What the arguments read as. -/
import Derived.KernelRfl
import Derived.Test.YtlgmodeibmdcgaaDoorOpen
import Derived.Test.YtlgmodeibmdcgaaDoorLaw9a
set_option linter.unusedVariables false
set_option linter.unusedSimpArgs false
namespace Go.Proofs.YtlgmodeibmdcgaaDoor
open Go.RowKit Go.Deep

theorem opens_bytes : Opens Tryd.prog (Ty.slice Ty.u8) 30 := Opens.slice (Opens.u8 (by kernel_rfl) Tryd.underlying5) (by kernel_rfl) Tryd.underlying30
theorem opens_act : Opens Tryd.prog tAct9 34 := by
  have o5 : Opens Tryd.prog Ty.u8 5 := Opens.u8 (by kernel_rfl) Tryd.underlying5
  have o4 : Opens Tryd.prog Ty.bool 4 := Opens.bool (by kernel_rfl) Tryd.underlying4
  have hc : Tryd.prog.cellsOf 34 = 3 := by kernel_rfl
  refine ⟨hc, fun H enc w base spare held fuel cs x h => ?_⟩
  obtain ⟨y0, y1, y2, n, rfl, hl, h0, h1, h2⟩ := trod_struct3 Tryd.underlying34 h
  rw [hc] at hl
  simp only [o5.1, o4.1, opens_bytes.1] at h0 h1 h2
  match cs, hl with
  | [c0, c1, c2], _ =>
    obtain ⟨v0, e0⟩ := o4.2 _ _ _ _ _ _ _ _ _ h0
    obtain ⟨v1, e1⟩ := o5.2 _ _ _ _ _ _ _ _ _ h1
    obtain ⟨v2, e2⟩ := opens_bytes.2 _ _ _ _ _ _ _ _ _ h2
    exact ⟨⟨v0, v1, v2⟩, [c0], [c1, c2], rfl, e0, [c1], [c2], rfl, e1, e2⟩
theorem opens_acts : Opens Tryd.prog (Ty.slice tAct9) 22 := Opens.slice opens_act (by kernel_rfl) Tryd.underlying22
theorem opens_bools : Opens Tryd.prog (Ty.slice Ty.bool) 40 := Opens.slice (Opens.bool (by kernel_rfl) Tryd.underlying4) (by kernel_rfl) Tryd.underlying40
end Go.Proofs.YtlgmodeibmdcgaaDoor
