/- What lists of acts read as. -/
import Derived.KernelRfl
import Derived.Test.YtkcppngopdiljaaOpen
import Derived.Test.YtkcppngopdiljaaSpec06b
set_option linter.unusedVariables false
set_option linter.unusedSimpArgs false
namespace Go.Proofs.Ytkcppngopdiljaa
open Go.RowKit Go.Deep

theorem opens_act : Opens Try.prog tAct 83 := by
  have o5 : Opens Try.prog Ty.u8 5 := Opens.u8 (by kernel_rfl) Try.underlying5
  have o4 : Opens Try.prog Ty.bool 4 := Opens.bool (by kernel_rfl) Try.underlying4
  have hc : Try.prog.cellsOf 83 = 3 := by kernel_rfl
  refine ⟨hc, fun H enc w base spare held fuel cs x h => ?_⟩
  obtain ⟨y0, y1, y2, n, rfl, hl, h0, h1, h2⟩ := trod_struct3 Try.underlying83 h
  rw [hc] at hl
  simp only [o5.1, o4.1] at h0 h1 h2
  match cs, hl with
  | [c0, c1, c2], _ =>
    obtain ⟨v0, e0⟩ := o5.2 _ _ _ _ _ _ _ _ _ h0
    obtain ⟨v1, e1⟩ := o5.2 _ _ _ _ _ _ _ _ _ h1
    obtain ⟨v2, e2⟩ := o4.2 _ _ _ _ _ _ _ _ _ h2
    exact ⟨⟨v0, v1, v2⟩, [c0], [c1, c2], rfl, e0, [c1], [c2], rfl, e1, e2⟩
theorem opens_acts : Opens Try.prog (Ty.slice tAct) 32 := Opens.slice opens_act (by kernel_rfl) Try.underlying32
theorem opens_acts2 : Opens Try.prog (Ty.slice (Ty.slice tAct)) 50 := Opens.slice opens_acts (by kernel_rfl) Try.underlying50
theorem opens_bytes : Opens Try.prog (Ty.slice Ty.u8) 27 := Opens.slice (Opens.u8 (by kernel_rfl) Try.underlying5) (by kernel_rfl) Try.underlying27
end Go.Proofs.Ytkcppngopdiljaa
