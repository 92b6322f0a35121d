/- Laws of layer 9 (trie): TrieOne, whatever the input. -/
import Derived.Test.YtlgmodeibmdcgaaDoorLaw9j
set_option linter.unusedVariables false
set_option linter.unusedSimpArgs false
namespace Go.Proofs.YtlgmodeibmdcgaaDoor
open Go.RowKit

set_option maxHeartbeats 2000000 in
set_option maxRecDepth 100000 in
theorem law_one {w : World} {F G : Nat → Prop} {D E : Option Addr} {d e1 : Nat} {l more : List Act9} (h : Rd tAct9 w F D l) (h2 : Rd tAct9 w G E more) (hk : KAt w) :
    Calls Tryd.prog 3 #[.slice D l.length d, .slice E more.length e1] w fun e w' => e = .returned (.bool true) ∧ Fr No w w' := by
  have hsm := fun (w1 : World) (f : Fr No w w1) => small_ok (c := d) (h.fr0 f)
  have hsm2 := fun (w1 : World) (f : Fr No w w1) => small_ok (c := e1) (h2.fr0 f)
  have HB := Lib.hid fun (w1 : World) (f : Fr No w w1) => back_ok (hk.fr0 f)
  cases hs : smallB l with
  | false =>
      simp only [hs] at hsm
      have H := Lib.hid (And.intro hsm trivial)
      clear hsm hsm2 h h2 hk hs
      go_enter Tryd.func3, Tryd.ntmps3
      go_wp2_with fail
      refine (HB.out _ (Fr.refl _ _)).mono ?_
      rintro e w1 ⟨rfl, hf1⟩
      have H1 := Lib.hid hf1
      clear hf1
      go_wp2_with fail
      refine (H.out.1 _ H1.out).mono ?_
      rintro e w' ⟨rfl, rfl⟩
      go_wp2_with fail
      refine (HB.out _ H1.out).mono ?_
      rintro e w2 ⟨rfl, hf2⟩
      have H2 := Lib.hid (H1.out.next hf2 (fun _ _ f => f.elim))
      clear hf2
      go_wp2_with fail
      go_ret
      exact ⟨rfl, H2.out⟩
  | true =>
    cases hs2 : smallB more with
    | true => exact law_one_ok h h2 hs hs2 hk
    | false =>
      simp only [hs] at hsm
      simp only [hs2] at hsm2
      have H := Lib.hid (And.intro hsm hsm2)
      clear hsm hsm2 h h2 hk hs hs2
      go_enter Tryd.func3, Tryd.ntmps3
      go_wp2_with fail
      refine (HB.out _ (Fr.refl _ _)).mono ?_
      rintro e w1 ⟨rfl, hf1⟩
      have H1 := Lib.hid hf1
      clear hf1
      go_wp2_with fail
      refine (H.out.1 _ H1.out).mono ?_
      rintro e w' ⟨rfl, rfl⟩
      go_wp2_with fail
      refine (H.out.2 _ H1.out).mono ?_
      rintro e w' ⟨rfl, rfl⟩
      go_wp2_with fail
      refine (HB.out _ H1.out).mono ?_
      rintro e w2 ⟨rfl, hf2⟩
      have H2 := Lib.hid (H1.out.next hf2 (fun _ _ f => f.elim))
      clear hf2
      go_wp2_with fail
      go_ret
      exact ⟨rfl, H2.out⟩
end Go.Proofs.YtlgmodeibmdcgaaDoor
