/- What the arguments of layer 19's laws read as. -/
import Derived.KernelRfl
import Derived.OpenShut
import Derived.Test.YtfaooohenicfbaaGreatDoorOpen
import Derived.Test.YtfaooohenicfbaaGreatDoorLawTimes
set_option linter.unusedVariables false
set_option linter.unusedSimpArgs false
namespace Go.Proofs.YtfaooohenicfbaaGreatDoor
open Go.RowKit Go.Deep

theorem opens_q4 : Opens Tryz.prog tQ4 47 := by
  have hc : Tryz.prog.cellsOf 47 = 4 := by kernel_rfl
  have he : Tryz.prog.cellsOf 25 = 1 := by kernel_rfl
  refine ⟨hc, fun H enc w base spare held fuel cs x h => ?_⟩
  obtain ⟨xs, m, rfl, rfl, hl, hx, hi⟩ := DataW.trod_array Tryz.underlying47 h
  rw [hc] at hl
  rw [he] at hi
  have one : ∀ i, i < 4 → ∃ n : Int, cs[i]? = some (.int .i8 n) ∧ small8 n := fun i hi4 => by
    have hxi : i < xs.length := by omega
    have h1 := hi i hi4
    rw [List.getElem?_eq_getElem hxi] at h1
    obtain ⟨n, h2, _, hw⟩ := DataW.trod_int Tryz.underlying25 h1
    refine ⟨n, ?_, bounds_i8 hw⟩
    have h3 := congrArg (fun l => l[0]?) h2
    simp only [List.getElem?_take, List.getElem?_drop, Nat.mul_one, Nat.add_zero, List.getElem?_cons_zero] at h3
    simpa using h3
  obtain ⟨a, ha, sa⟩ := one 0 (by decide)
  obtain ⟨b, hb, sb⟩ := one 1 (by decide)
  obtain ⟨c, hcc, sc⟩ := one 2 (by decide)
  obtain ⟨d, hd, sd⟩ := one 3 (by decide)
  clear one hi h hx he hc
  match cs, hl with
  | [c0, c1, c2, c3], _ =>
    simp only [List.getElem?_cons_zero, List.getElem?_cons_succ, Option.some.injEq] at ha hb hcc hd
    subst ha hb hcc hd
    exact ⟨⟨a, b, c, d⟩, rfl, sa, sb, sc, sd⟩
theorem opens_q4s : Opens Tryz.prog (Ty.slice tQ4) 46 := Opens.slice opens_q4 (by kernel_rfl) Tryz.underlying46
end Go.Proofs.YtfaooohenicfbaaGreatDoor
