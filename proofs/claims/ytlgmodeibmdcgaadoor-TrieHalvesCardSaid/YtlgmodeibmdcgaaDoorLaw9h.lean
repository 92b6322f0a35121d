/- Laws of layer 9 (trie): TrieHalves, whatever the input. -/
import Derived.Test.YtlgmodeibmdcgaaDoorLaw9g
set_option linter.unusedVariables false
set_option linter.unusedSimpArgs false
namespace Go.Proofs.YtlgmodeibmdcgaaDoor
open Go.RowKit

set_option maxHeartbeats 2000000 in
set_option maxRecDepth 100000 in
theorem law_halves {w : World} {F G : Nat → Prop} {D E : Option Addr} {d e1 : Nat} {l : List Act9} {path : List Bool} (h : Rd tAct9 w F D l) (hpth : Rd Ty.bool w G E path) (hk : KAt w) :
    Calls Tryd.prog 4 #[.slice D l.length d, .slice E path.length e1] w fun e w' => e = .returned (.bool true) ∧ Fr No w w' := by
  by_cases hgood : smallB l = true ∧ path.length ≤ 60
  · exact law_halves_ok h hpth hgood.1 hgood.2 hk
  · have hsm := fun (w1 : World) (f : Fr No w w1) => small_ok (c := d) (h.fr0 f)
    have HB := Lib.hid fun (w1 : World) (f : Fr No w w1) => back_ok (hk.fr0 f)
    have hl63 := h.1
    have hp63 := hpth.1
    cases hs : smallB l with
    | false =>
      simp only [hs] at hsm
      have H := Lib.hid hsm
      clear hsm h hpth hk hgood hs
      go_enter Tryd.func4, Tryd.ntmps4
      go_wp2_with fail
      refine (HB.out _ (Fr.refl _ _)).mono ?_
      rintro e w1 ⟨rfl, hf1⟩
      have H1 := Lib.hid hf1
      clear hf1
      go_wp2_with fail
      refine (H.out _ H1.out).mono ?_
      rintro e w' ⟨rfl, rfl⟩
      go_wp2_with fail
      refine (HB.out _ H1.out).mono ?_
      rintro e w2 ⟨rfl, hf2⟩
      have H2 := Lib.hid (H1.out.next hf2 (fun _ _ f => f.elim))
      clear hf2
      go_wp2_with fail
      go_ret
      exact ⟨rfl, H2.out⟩
    | true =>
      have hpi : (60 : Int) < (path.length : Int) := by
        have : ¬ path.length ≤ 60 := fun h => hgood ⟨hs, h⟩
        omega
      simp only [hs] at hsm
      have H := Lib.hid hsm
      clear hsm h hpth hk hgood hs
      go_enter Tryd.func4, Tryd.ntmps4
      go_wp2_with fail
      refine (HB.out _ (Fr.refl _ _)).mono ?_
      rintro e w1 ⟨rfl, hf1⟩
      have H1 := Lib.hid hf1
      clear hf1
      go_wp2_with fail
      refine (H.out _ H1.out).mono ?_
      rintro e w' ⟨rfl, rfl⟩
      go_wp2_with fail
      refine (HB.out _ H1.out).mono ?_
      rintro e w2 ⟨rfl, hf2⟩
      have H2 := Lib.hid (H1.out.next hf2 (fun _ _ f => f.elim))
      clear hf2
      go_wp2_with fail
      go_ret
      exact ⟨rfl, H2.out⟩
end Go.Proofs.YtlgmodeibmdcgaaDoor
