/- Laws of layer 9 (trie): TrieNil. -/
import Derived.Test.YtlgmodeibmdcgaaDoorLaw9c
import Derived.Test.YtlgmodeibmdcgaaDoorKeysP
set_option linter.unusedVariables false
set_option linter.unusedSimpArgs false
namespace Go.Proofs.YtlgmodeibmdcgaaDoor
open Go.RowKit

set_option maxHeartbeats 4000000 in
set_option maxRecDepth 100000 in
theorem law_nil_ok {w : World} (k : ByteArray) (hp : k.size ≤ 60) (hk : KAt w) :
    Calls Tryd.prog 9 #[.string k] w fun e w' => e = .returned (.bool true) ∧ Fr No w w' := by
  have hki : (k.size : Int) ≤ 60 := by omega
  have hget := get_ok (B := 0) (t := .nil) (v := .pointer none) k (show NodeAt 0 w (.pointer none) .nil from rfl) (by omega) hk (Nat.zero_le _) (fun r hr => by cases hr)
  have hhal := fun w => halves_not (B := 0) (w := w) (t := .nil) (v := .pointer none) rfl (.inl rfl)
  have hlf := fun w => leafm_not (B := 0) (w := w) (t := .nil) (v := .pointer none) rfl rfl
  have hbk := fun (w1 : World) (f : Fr No w w1) => back_ok (hk.fr0 f)
  have hdel := fun (w1 : World) (f : Fr No w w1) => Del_ok (B := 0) (t := .nil) (v := .pointer none) k (show NodeAt 0 w1 (.pointer none) .nil from rfl) (by omega) (hk.fr0 f) (Nat.zero_le _) trivial (Nat.zero_le _) (Nat.zero_le _)
  have hkeys := fun w => keys_ok (B := 0) (w := w) (t := .nil) (v := .pointer none) (ks := []) rfl (List.Perm.refl _) List.Pairwise.nil (Nat.zero_le _) (Nat.zero_le _)
  have hdig := fun (w1 : World) (f : Fr No w w1) => dig_ok (B := 0) (t := .nil) (v := .pointer none) rfl (hk.fr0 f)
  have hd0 : digT .nil = dE := rfl
  simp only [hd0] at hdig
  simp only [List.length_nil] at hkeys
  have H := Lib.hid (And.intro hget (And.intro hhal (And.intro hlf (And.intro hbk (And.intro hdel (And.intro hkeys hdig))))))
  have HE := Lib.hid ref_empty
  have HL := Lib.hid len_nil
  clear hget hhal hlf hbk hdel hkeys hdig hk hd0 hp
  go_enter Tryd.func9, Tryd.ntmps9
  go_wp2_with fail
  refine H.out.1.mono ?_
  rintro e w1 ⟨rfl, hf1⟩
  have H1 := Lib.hid hf1
  clear hf1
  go_wp2_with fail
  refine (H.out.2.1 _).mono ?_
  rintro e w' ⟨rfl, rfl⟩
  go_wp2_with fail
  refine (H.out.2.2.1 _).mono ?_
  rintro e w' ⟨rfl, rfl⟩
  go_wp2_with fail
  refine (H.out.2.2.2.1 _ H1.out).mono ?_
  rintro e w2 ⟨rfl, hf2⟩
  have H2 := Lib.hid (H1.out.next hf2 (fun _ _ f => f.elim))
  clear hf2
  go_wp2_with fail
  refine (H.out.2.2.2.2.1 _ H2.out).mono ?_
  rintro e w3 ⟨u, rfl, hu, hf3⟩
  obtain rfl : u = .pointer none := hu
  have H3 := Lib.hid (H2.out.next hf3 (fun _ _ f => f.elim))
  clear hf3
  go_wp2_with fail
  refine (HL.out _).mono ?_
  rintro e w' ⟨rfl, rfl⟩
  go_wp2_with fail
  refine (H.out.2.2.2.2.2.1 _).mono ?_
  rintro e w4 ⟨A, c, rfl, _, hf4⟩
  have H4 := Lib.hid (H3.out.next hf4 (fun _ _ f => f.elim))
  clear hf4
  go_wp2_with fail
  refine (H.out.2.2.2.2.2.2 _ H4.out).mono ?_
  rintro e w5 ⟨rfl, hf5⟩
  have H5 := Lib.hid (H4.out.next hf5 (fun _ _ f => f.elim))
  clear hf5
  go_wp2_with fail
  refine (HE.out _).mono ?_
  rintro e w6 ⟨rfl, hf6⟩
  have H6 := Lib.hid (H5.out.next hf6 (fun _ _ f => f.elim))
  clear hf6
  go_wp2_with fail
  go_ret
  exact ⟨rfl, H6.out⟩
set_option maxHeartbeats 1000000 in
set_option maxRecDepth 100000 in
theorem law_nil {w : World} (k : ByteArray) (hsz : k.size ≤ 140737488351232) (hk : KAt w) :
    Calls Tryd.prog 9 #[.string k] w fun e w' => e = .returned (.bool true) ∧ Fr No w w' := by
  by_cases hp : k.size ≤ 60
  · exact law_nil_ok k hp hk
  · have hpi : (60 : Int) < (k.size : Int) := by omega
    have HB := Lib.hid (back_ok hk)
    clear hp hk
    go_enter Tryd.func9, Tryd.ntmps9
    go_wp2_with fail
    refine HB.out.mono ?_
    rintro e1 w1 ⟨rfl, hf1⟩
    have HF1 := Lib.hid hf1
    clear hf1
    go_wp2_with fail
    go_ret
    exact ⟨rfl, HF1.out⟩
end Go.Proofs.YtlgmodeibmdcgaaDoor
