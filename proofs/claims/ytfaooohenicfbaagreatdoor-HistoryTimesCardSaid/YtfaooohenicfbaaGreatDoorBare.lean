/- The document's example of layer 19, and HistoryFails. -/
import Derived.Test.YtfaooohenicfbaaGreatDoorReplay
set_option linter.unusedVariables false
set_option linter.unusedSimpArgs false
namespace Go.Proofs.YtfaooohenicfbaaGreatDoor
open Go.RowKit

set_option maxHeartbeats 1000000 in
set_option maxRecDepth 100000 in
theorem times_nil {w : World} : Calls Tryz.prog 13 #[.slice none 0 0] w fun e w' => e = .returned (.bool true) ∧ Fr No w w' := by
  have hmm := @run_makeMap Tryz.prog
  have hw := Lib.hid (Fr.refl No w)
  go_enter Tryz.func13, Tryz.ntmps13
  go_wp2_with fail
  refine wp_loop_rounds 1 ?_
  rw [rounds_succ]
  go_wp2_with fail
  go_ret
  exact ⟨rfl, hw.out.alloc _⟩
theorem rd_en1 {w : World} {F : Nat → Prop} {g : Nat} {x : En} {t : TypeId} (hF : F g) (h : w.heap[g]? = some (.cells x.cells.toArray t (0, 0))) : Rd tEn w F (some ⟨g, 0, none⟩) [x] :=
  ⟨by simp, x.cells, Row.single (t := tEn) rfl, fun j u hu => ⟨_, rfl, hF, by rw [add0, blk_cell h]; simpa using hu⟩⟩

/-- The example's one entry. -/
def en1 : En := ⟨0, 1, 1, 1, 1, 0⟩
set_option maxHeartbeats 2000000 in
set_option maxRecDepth 100000 in
theorem bare_ok {w : World} (hk : KAt w) : Calls Tryz.prog 6 #[] w fun e w' => e = .returned (.bool true) ∧ Fr No w w' := by
  have hw := Lib.hid (And.intro (Fr.refl No w) hk)
  have HT := Lib.hid fun (w : World) => tables_nil (w := w)
  have HTI := Lib.hid fun (w : World) => times_nil (w := w)
  have HR := Lib.hid fun (w : World) (F : Nat → Prop) (A : Option Addr) (c : Nat) (h : Rd tTab w F A [tab0]) (hk : KAt w) => replay_nil (c := c) h tab0_ok hk
  have HR1 := Lib.hid fun (w : World) (F G : Nat → Prop) (A E : Option Addr) (c d : Nat) (h : Rd tTab w F A [tab0]) (hk : KAt w) (he : Rd tEn w G E [en1]) => replay_one (c := c) (d := d) en1 h tab0_ok hk he rfl (by decide)
  clear hk
  go_enter Tryz.func6, Tryz.ntmps6
  go_wp2_with fail
  refine (HT.out _).mono ?_
  rintro e w1 ⟨A1, c1, rfl, _, hR1, hf1⟩
  have H1 := Lib.hid (And.intro hR1 hf1)
  clear hR1 hf1
  go_wp2_with fail
  refine (HR.out _ _ _ _ H1.out.1 (hw.out.2.fr0 H1.out.2)).mono ?_
  rintro e w2 ⟨lb, rfl, hf2⟩
  have H2 := Lib.hid (H1.out.2.trans (hf2.mono fun _ _ f => f.elim))
  clear hf2
  go_wp2_with fail
  refine (HT.out _).mono ?_
  rintro e w3 ⟨A3, c3, rfl, _, hR3, hf3⟩
  have H3 := Lib.hid (And.intro hR3 (H2.out.trans (hf3.mono fun _ _ f => f.elim)))
  clear hR3 hf3
  go_wp2_with fail
  refine (HR1.out _ _ (fun _ => True) _ _ _ _ (H3.out.1.fr0 ((Fr.refl No w3).alloc _)) ((hw.out.2.fr0 H3.out.2).fr0 ((Fr.refl No w3).alloc _)) (rd_en1 (x := en1) trivial (heap_alloc_new _ _))).mono ?_
  rintro e w4 ⟨lb4, sb, mb, xa, tabs, st, rfl, hf4, hL4, hM4⟩
  have H4 := Lib.hid (And.intro hL4 (And.intro hM4 ((H3.out.2.alloc _).trans (hf4.mono fun _ _ f => f.elim))))
  clear hL4 hM4 hf4
  go_wp2_with fail
  refine (HTI.out _).mono ?_
  rintro e w5 ⟨rfl, hf5⟩
  have H5 := Lib.hid (And.intro (led_open 1 (some xa) (hf5.blk H4.out.1 (fun f => f)) (H4.out.2.1.stab (hf5.block _ H4.out.2.1.lt (fun f => f))) rfl) (H4.out.2.2.trans (hf5.mono fun _ _ f => f.elim)))
  clear hf5
  go_wp2_with fail
  refine H5.out.1.mono ?_
  rintro e w6 ⟨rfl, rfl⟩
  go_wp2_with fail
  go_ret
  exact ⟨rfl, H5.out.2⟩
end Go.Proofs.YtfaooohenicfbaaGreatDoor
