/- The law HistoryFails. -/
import Derived.Test.YtfaooohenicfbaaGreatDoorBare
set_option linter.unusedVariables false
set_option linter.unusedSimpArgs false
namespace Go.Proofs.YtfaooohenicfbaaGreatDoor
open Go.RowKit

theorem tab_put {w : World} {F : Nat → Prop} {e : TypeId} {A : Option Addr} {c : Nat} (h : Ow tTab e w F (.slice A 1 c) [tab0]) : ∃ g, A = some ⟨g, 0, none⟩ ∧ F g ∧ w.cell? ⟨g, 2, none⟩ = some (.int .i64 1) ∧ w.frozen? ⟨g, 2, none⟩ = false ∧ ∀ k : Int, Rd tTab (w.setCell ⟨g, 2, none⟩ (.int .i64 k)) F A [tabK k] := by
  obtain ⟨cs, ho1, ho2, ho3⟩ := h
  rcases ho1.2 with ⟨_, h4⟩ | ⟨g, cap, cur, h4, _, hb, hnc, hcm, hsz, htk⟩
  · cases h4
  · injection h4 with h5 h6 h7
    subst h5
    obtain ⟨c1, c2, rfl, ⟨d1, d2, rfl, hd1, hd2⟩, hc2⟩ := ho2
    obtain rfl : c2 = [] := hc2
    obtain rfl : d1 = _ := hd1
    obtain ⟨d3, d4, rfl, ⟨R, cr, rfl, hcr, hR⟩, hd4⟩ := hd2
    obtain rfl : d4 = _ := hd4
    have hcell : ∀ j, j < 3 → cur[j]? = ([Value.string tab0.1] ++ ([Value.slice R tab0.2.1.length cr] ++ [Value.int .i64 tab0.2.2]) ++ [])[j]? := fun j hj => by
      rw [← htk, List.getElem?_take, if_pos (show j < [tab0].length * tTab.sz from hj), Array.getElem?_toList]
    have hg2 : 2 < cur.size := by rw [hsz]; exact Nat.lt_of_lt_of_le (by decide) (Nat.mul_le_mul_right tTab.sz hnc)
    refine ⟨g, rfl, ho3 g rfl, by rw [blk_cell hb, hcell 2 (by decide)]; rfl, blk_frozen hb 2, fun k => ?_⟩
    have hb2 := blk_set hb 2 (.int .i64 k)
    refine ⟨by simp, [.string tab0.1, .slice R tab0.2.1.length cr, .int .i64 k], ?_, fun j u hu => ⟨_, rfl, ho3 g rfl, ?_⟩⟩
    · refine Row.single (t := tTab) ⟨[.string tab0.1], [.slice R tab0.2.1.length cr, .int .i64 k], rfl, rfl, [.slice R tab0.2.1.length cr], [.int .i64 k], rfl, ⟨R, cr, rfl, hcr, ?_⟩, rfl⟩
      refine (hR.stab fun i hi hl => Below.heap_setCell _ _ _ _ ?_).mono fun i hi _ => hi.1
      intro h
      exact hi.2 (by rw [h]; rfl)
    · rw [add0, blk_cell hb2]
      match j, hu with
      | 0, hu => rw [Array.getElem?_setIfInBounds_ne (by decide), hcell 0 (by decide)]; exact hu
      | 1, hu => rw [Array.getElem?_setIfInBounds_ne (by decide), hcell 1 (by decide)]; exact hu
      | 2, hu => rw [Array.getElem?_setIfInBounds_self_of_lt hg2]; exact hu
      | j + 3, hu => simp at hu

set_option maxHeartbeats 2000000 in
set_option maxRecDepth 100000 in
theorem law_fails {w : World} (n : Int) (hn : 0 ≤ n ∧ n ≤ 255) (hk : KAt w) : Calls Tryz.prog 5 #[.int .u8 n] w fun e w' => e = .returned (.bool true) ∧ Fr No w w' := by
  have hw := Lib.hid (And.intro (Fr.refl No w) hk)
  have HT := Lib.hid fun (w : World) => tables_nil_ow (w := w)
  have HB := Lib.hid fun (w1 : World) (f : Fr No w w1) => bare_ok (hk.fr0 f)
  clear hk
  go_enter Tryz.func5, Tryz.ntmps5
  go_wp2_with fail
  refine (HT.out _).mono ?_
  rintro e w1 ⟨A1, c1, rfl, hO1, hf1⟩
  obtain ⟨g, rfl, hg, x2, z2, hput⟩ := tab_put hO1
  have H1 := Lib.hid (And.intro hput (And.intro hg hf1))
  clear hput hg hf1 hO1
  go_wp2_with fail
  have hfs : Fr No w (w1.setCell ⟨g, 2, none⟩ (.int .i64 (n % 4 + 2))) := (Fr.refl No w).trans ((H1.out.2.2.set _ (.inr H1.out.2.1) _).mono fun _ _ f => f.elim)
  refine (replay_no _ (H1.out.1 (n % 4 + 2)) (by omega)).mono ?_
  rintro e w2 ⟨rfl, hf2⟩
  have H2 := Lib.hid (hfs.trans (hf2.mono fun _ _ f => f.elim))
  clear hf2 hfs
  go_wp2_with fail
  refine (HB.out _ H2.out).mono ?_
  rintro e w3 ⟨rfl, hf3⟩
  have H3 := Lib.hid (H2.out.trans (hf3.mono fun _ _ f => f.elim))
  clear hf3
  go_wp2_with fail
  go_ret
  exact ⟨rfl, H3.out⟩
end Go.Proofs.YtfaooohenicfbaaGreatDoor
