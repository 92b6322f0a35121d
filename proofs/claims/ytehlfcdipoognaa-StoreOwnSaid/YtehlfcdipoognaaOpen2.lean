/- What lists of acts read as. -/
import Derived.KernelRfl
import Derived.Test.YtehlfcdipoognaaOpen
import Derived.Test.YtehlfcdipoognaaSpec06b
set_option linter.unusedVariables false
set_option linter.unusedSimpArgs false
namespace Go.Proofs.Ytehlfcdipoognaa
open Go.RowKit Go.Deep

theorem opens_act : Opens Try.prog tAct 74 := by
  have o5 : Opens Try.prog Ty.u8 5 := Opens.u8 (by kernel_rfl) Try.underlying5
  have o4 : Opens Try.prog Ty.bool 4 := Opens.bool (by kernel_rfl) Try.underlying4
  have hc : Try.prog.cellsOf 74 = 3 := by kernel_rfl
  refine ⟨hc, fun H enc w base spare held fuel cs x h => ?_⟩
  obtain ⟨y0, y1, y2, n, rfl, hl, h0, h1, h2⟩ := trod_struct3 Try.underlying74 h
  rw [hc] at hl
  simp only [o5.1, o4.1] at h0 h1 h2
  match cs, hl with
  | [c0, c1, c2], _ =>
    obtain ⟨v0, e0⟩ := o5.2 _ _ _ _ _ _ _ _ _ h0
    obtain ⟨v1, e1⟩ := o5.2 _ _ _ _ _ _ _ _ _ h1
    obtain ⟨v2, e2⟩ := o4.2 _ _ _ _ _ _ _ _ _ h2
    exact ⟨⟨v0, v1, v2⟩, [c0], [c1, c2], rfl, e0, [c1], [c2], rfl, e1, e2⟩
theorem opens_acts : Opens Try.prog (Ty.slice tAct) 38 := Opens.slice opens_act (by kernel_rfl) Try.underlying38
theorem opens_acts2 : Opens Try.prog (Ty.slice (Ty.slice tAct)) 22 := Opens.slice opens_acts (by kernel_rfl) Try.underlying22
theorem opens_bytes : Opens Try.prog (Ty.slice Ty.u8) 49 := Opens.slice (Opens.u8 (by kernel_rfl) Try.underlying5) (by kernel_rfl) Try.underlying49
end Go.Proofs.Ytehlfcdipoognaa
