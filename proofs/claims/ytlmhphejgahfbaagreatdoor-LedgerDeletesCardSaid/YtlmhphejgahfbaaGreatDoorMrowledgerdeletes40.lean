/- Texts of this claim, one behind the other: Tx5, Tx12. -/
import Derived.Test.YtlmhphejgahfbaaGreatDoorMrowledgerdeletes19
import Derived.Deep.RegionHeld3
/- Layer 14 (tx): Get, of a key that it wrote. -/
set_option linter.unusedVariables false
set_option linter.unusedSimpArgs false
namespace Go.Proofs.YtlmhphejgahfbaaGreatDoor
open Go.RowKit

set_option maxHeartbeats 1000000 in
set_option maxRecDepth 100000 in
theorem tx_get_own {w : World} {F : Nat → Prop} {xb : Nat} {base : Int} {ws : List Wr} {y : Wr} {s : Option Addr} (key : ByteArray) (h : TxAt w F xb base ws) (hf : wfind key ws = some y) (hl : y.row.length ≤ 1000000000) :
    Calls Tryz.prog 59 #[.pointer (some ⟨xb, 0, none⟩), .pointer s, .string key] w fun e w' => ∃ A c, e = .returned (.tuple #[.slice A y.row.length c, .bool (!y.gone)]) ∧ Ow Ty.u8 5 w' (fun i => w.heap.size ≤ i) (.slice A y.row.length c) y.row ∧ Fr No w w' := by
  have hown := tx_own key h
  rw [hf] at hown
  have H := Lib.hid hown
  clear hown h hf
  go_enter Tryz.func59, Tryz.ntmps59
  go_wp2_with fail
  refine H.out.mono ?_
  rintro e1 w1 ⟨⟨k, A, n, c, g, rfl, hy⟩, hf1⟩
  obtain ⟨rfl, rfl, rfl, hc, hr⟩ := hy y rfl
  obtain ⟨W, hW⟩ : ∃ W, W = w1.alloc (.cells #[.string y.key, .slice A y.row.length c, .bool y.gone] 117) := ⟨_, rfl⟩
  have hfW : Fr No w1 W := by rw [hW]; exact (Fr.refl No w1).alloc _
  have hbW : W.heap[w1.heap.size]? = some (.cells #[.string y.key, .slice A y.row.length c, .bool y.gone] 117 (0, 0)) := by rw [hW]; exact heap_alloc_new w1 _
  have b1 := blk_cell hbW 1
  have b2 := blk_cell hbW 2
  simp at b1 b2
  have hcl := fun w' (f : Fr No W w') => clone_ok (w := w') (c := c) ((hr.fr0 hfW).fr0 f) rfl (by omega)
  have HC := Lib.hid (And.intro hcl (hf1.trans (hfW.mono fun _ _ f => f.elim)))
  clear hcl hr hf1 hfW hbW hy
  go_wp2_with fail
  rw [← hW]
  clear hW
  go_region_held3 (fun w' => w'.cell? ⟨w1.heap.size, 1, none⟩ = some (.slice A y.row.length c) ∧ w'.cell? ⟨w1.heap.size, 2, none⟩ = some (.bool y.gone))
    (first
      | exact ⟨b1, b2⟩
      | exact ⟨q1, q2⟩)
    (first
      | (go_at_call 100; refine (HC.out.1 _ (by repeat (first | exact Fr.refl _ _ | apply Fr.drew | apply Fr.drewN))).mono ?_; rintro e2 w2 ⟨A2, c2, rfl, ho2, hf2⟩
         have hg2 : Fr No W w2 := Fr.trans (by repeat (first | exact Fr.refl _ _ | apply Fr.drew | apply Fr.drewN)) (hf2.mono fun _ _ f => f.elim)
         have q1 := hg2.cell b1 (fun f => f)
         have q2 := hg2.cell b2 (fun f => f)
         have H2 := Lib.hid (And.intro ho2 hg2)
         clear ho2 hf2 hg2))
  all_goals
    go_wp2_with fail
    go_ret2
    have hwz := HC.out.2.size
    exact ⟨A2, c2, rfl, H2.out.1.mono fun i hi _ => by have hi' : W.heap.size ≤ i := hi; show w.heap.size ≤ i; omega, HC.out.2.trans (H2.out.2.mono fun _ _ f => f.elim)⟩
end Go.Proofs.YtlmhphejgahfbaaGreatDoor
/- Layer 14 (tx): Get, of a key that it did not write; of no transaction. -/
set_option linter.unusedVariables false
set_option linter.unusedSimpArgs false
namespace Go.Proofs.YtlmhphejgahfbaaGreatDoor
open Go.RowKit

set_option maxHeartbeats 1000000 in
set_option maxRecDepth 100000 in
theorem tx_get_none {w : World} {F : Nat → Prop} {xb : Nat} {base : Int} {ws : List Wr} {sp : Option Addr} {o : Option Bs} (key : ByteArray) (h : TxAt w F xb base ws) (hf : wfind key ws = none)
    (hg : ∀ w', Fr No w w' → Calls Tryz.prog 117 #[.pointer sp, .int .i64 base, .string key] w' fun e w'' => RowOk w' w'' e o ∧ Fr No w' w'') :
    Calls Tryz.prog 59 #[.pointer (some ⟨xb, 0, none⟩), .pointer sp, .string key] w fun e w' => RowOk w w' e o ∧ Fr No w w' := by
  have hown := tx_own key h
  rw [hf] at hown
  have hx : ∀ w', Fr No w w' → w'.cell? ⟨xb, 0, none⟩ = some (.int .i64 base) := fun w' f => by
    obtain ⟨_, mb, l, _, _, h4, _, _⟩ := h
    have := blk_cell (f.blk h4 (fun f => f)) 0
    simpa using this
  have H := Lib.hid (And.intro hown (And.intro hx hg))
  clear hown h hf hx hg
  go_enter Tryz.func59, Tryz.ntmps59
  go_wp2_with fail
  refine H.out.1.mono ?_
  rintro e1 w1 ⟨⟨k, A, n, c, g, rfl, _⟩, hf1⟩
  obtain ⟨W, hW⟩ : ∃ W, W = w1.alloc (.cells #[.string k, .slice A n c, .bool g] 117) := ⟨_, rfl⟩
  have hfW : Fr No w W := by rw [hW]; exact hf1.alloc _
  have x0 := H.out.2.1 W hfW
  rw [hW] at x0
  have hgW := H.out.2.2 W hfW
  have HG := Lib.hid (And.intro hgW hfW)
  clear hgW hfW hf1
  go_wp2_with fail
  rw [← hW]
  clear hW
  refine HG.out.1.mono ?_
  rintro e2 w2 ⟨⟨A2, c2, rfl, ho2⟩, hf2⟩
  have HR := Lib.hid (And.intro (ho2.mono (G := fun i => w.heap.size ≤ i) fun i hi _ => by have := HG.out.2.size; have hi' : W.heap.size ≤ i := hi; omega) (HG.out.2.trans (hf2.mono fun _ _ f => f.elim)))
  clear ho2 hf2
  go_wp2_with fail
  go_ret2
  exact ⟨⟨A2, c2, rfl, HR.out.1⟩, HR.out.2⟩
theorem tx_get_nil (sp : Option Addr) (key : ByteArray) (w : World) : Calls Tryz.prog 59 #[.pointer none, .pointer sp, .string key] w fun e w' => e = .returned (.tuple #[.slice none 0 0, .bool false]) ∧ Fr No w w' := by
  have H := Lib.hid (tx_own_nil key w)
  go_enter Tryz.func59, Tryz.ntmps59
  go_wp2_with fail
  refine H.out.mono ?_
  rintro e1 w1 ⟨⟨k, A, n, c, g, rfl, _⟩, hf1⟩
  have HF := Lib.hid hf1
  clear hf1
  go_wp2_with fail
  go_ret2
  exact ⟨rfl, HF.out.alloc _⟩
end Go.Proofs.YtlmhphejgahfbaaGreatDoor
