/- Layer 14 (tx): Get, of a key that it wrote. -/
import Derived.Test.YtkcppngopdiljaaTx3
import Derived.Deep.RegionHeld3
set_option linter.unusedVariables false
set_option linter.unusedSimpArgs false
namespace Go.Proofs.Ytkcppngopdiljaa
open Go.RowKit

set_option maxHeartbeats 1000000 in
set_option maxRecDepth 100000 in
theorem tx_get_own {w : World} {F : Nat → Prop} {xb : Nat} {base : Int} {ws : List Wr} {y : Wr} {s : Option Addr} (key : ByteArray) (h : TxAt w F xb base ws) (hf : wfind key ws = some y) (hl : y.row.length ≤ 1000000000) :
    Calls Try.prog 18 #[.pointer (some ⟨xb, 0, none⟩), .pointer s, .string key] w fun e w' => ∃ A c, e = .returned (.tuple #[.slice A y.row.length c, .bool (!y.gone)]) ∧ Ow Ty.u8 5 w' (fun i => w.heap.size ≤ i) (.slice A y.row.length c) y.row ∧ Fr No w w' := by
  have hown := tx_own key h
  rw [hf] at hown
  have H := Lib.hid hown
  clear hown h hf
  go_enter Try.func18, Try.ntmps18
  go_wp2_with fail
  refine H.out.mono ?_
  rintro e1 w1 ⟨⟨k, A, n, c, g, rfl, hy⟩, hf1⟩
  obtain ⟨rfl, rfl, rfl, hc, hr⟩ := hy y rfl
  obtain ⟨W, hW⟩ : ∃ W, W = w1.alloc (.cells #[.string y.key, .slice A y.row.length c, .bool y.gone] 43) := ⟨_, rfl⟩
  have hfW : Fr No w1 W := by rw [hW]; exact (Fr.refl No w1).alloc _
  have hbW : W.heap[w1.heap.size]? = some (.cells #[.string y.key, .slice A y.row.length c, .bool y.gone] 43 (0, 0)) := by rw [hW]; exact heap_alloc_new w1 _
  have b1 := blk_cell hbW 1
  have b2 := blk_cell hbW 2
  simp at b1 b2
  have hcl := fun w' (f : Fr No W w') => clone_ok (w := w') (c := c) ((hr.fr0 hfW).fr0 f) rfl (by omega)
  have HC := Lib.hid (And.intro hcl (hf1.trans (hfW.mono fun _ _ f => f.elim)))
  clear hcl hr hf1 hfW hbW hy
  go_wp2_with fail
  rw [← hW]
  clear hW
  go_region_held3 (fun w' => w'.cell? ⟨w1.heap.size, 1, none⟩ = some (.slice A y.row.length c) ∧ w'.cell? ⟨w1.heap.size, 2, none⟩ = some (.bool y.gone))
    (first
      | exact ⟨b1, b2⟩
      | exact ⟨q1, q2⟩)
    (first
      | (go_at_call 31; refine (HC.out.1 _ (by repeat (first | exact Fr.refl _ _ | apply Fr.drew | apply Fr.drewN))).mono ?_; rintro e2 w2 ⟨A2, c2, rfl, ho2, hf2⟩
         have hg2 : Fr No W w2 := Fr.trans (by repeat (first | exact Fr.refl _ _ | apply Fr.drew | apply Fr.drewN)) (hf2.mono fun _ _ f => f.elim)
         have q1 := hg2.cell b1 (fun f => f)
         have q2 := hg2.cell b2 (fun f => f)
         have H2 := Lib.hid (And.intro ho2 hg2)
         clear ho2 hf2 hg2))
  all_goals
    go_wp2_with fail
    go_ret2
    have hwz := HC.out.2.size
    exact ⟨A2, c2, rfl, H2.out.1.mono fun i hi _ => by have hi' : W.heap.size ≤ i := hi; show w.heap.size ≤ i; omega, HC.out.2.trans (H2.out.2.mono fun _ _ f => f.elim)⟩
end Go.Proofs.Ytkcppngopdiljaa
