/- Layer 14 (tx): Get, of a key that it did not write; of no transaction. -/
import Derived.Test.YtkcppngopdiljaaTx5
set_option linter.unusedVariables false
set_option linter.unusedSimpArgs false
namespace Go.Proofs.Ytkcppngopdiljaa
open Go.RowKit

set_option maxHeartbeats 1000000 in
set_option maxRecDepth 100000 in
theorem tx_get_none {w : World} {F : Nat → Prop} {xb : Nat} {base : Int} {ws : List Wr} {sp : Option Addr} {o : Option Bs} (key : ByteArray) (h : TxAt w F xb base ws) (hf : wfind key ws = none)
    (hg : ∀ w', Fr No w w' → Calls Try.prog 36 #[.pointer sp, .int .i64 base, .string key] w' fun e w'' => RowOk w' w'' e o ∧ Fr No w' w'') :
    Calls Try.prog 18 #[.pointer (some ⟨xb, 0, none⟩), .pointer sp, .string key] w fun e w' => RowOk w w' e o ∧ Fr No w w' := by
  have hown := tx_own key h
  rw [hf] at hown
  have hx : ∀ w', Fr No w w' → w'.cell? ⟨xb, 0, none⟩ = some (.int .i64 base) := fun w' f => by
    obtain ⟨_, mb, l, _, _, h4, _, _⟩ := h
    have := blk_cell (f.blk h4 (fun f => f)) 0
    simpa using this
  have H := Lib.hid (And.intro hown (And.intro hx hg))
  clear hown h hf hx hg
  go_enter Try.func18, Try.ntmps18
  go_wp2_with fail
  refine H.out.1.mono ?_
  rintro e1 w1 ⟨⟨k, A, n, c, g, rfl, _⟩, hf1⟩
  obtain ⟨W, hW⟩ : ∃ W, W = w1.alloc (.cells #[.string k, .slice A n c, .bool g] 43) := ⟨_, rfl⟩
  have hfW : Fr No w W := by rw [hW]; exact hf1.alloc _
  have x0 := H.out.2.1 W hfW
  rw [hW] at x0
  have hgW := H.out.2.2 W hfW
  have HG := Lib.hid (And.intro hgW hfW)
  clear hgW hfW hf1
  go_wp2_with fail
  rw [← hW]
  clear hW
  refine HG.out.1.mono ?_
  rintro e2 w2 ⟨⟨A2, c2, rfl, ho2⟩, hf2⟩
  have HR := Lib.hid (And.intro (ho2.mono (G := fun i => w.heap.size ≤ i) fun i hi _ => by have := HG.out.2.size; have hi' : W.heap.size ≤ i := hi; omega) (HG.out.2.trans (hf2.mono fun _ _ f => f.elim)))
  clear ho2 hf2
  go_wp2_with fail
  go_ret2
  exact ⟨⟨A2, c2, rfl, HR.out.1⟩, HR.out.2⟩
theorem tx_get_nil (sp : Option Addr) (key : ByteArray) (w : World) : Calls Try.prog 18 #[.pointer none, .pointer sp, .string key] w fun e w' => e = .returned (.tuple #[.slice none 0 0, .bool false]) ∧ Fr No w w' := by
  have H := Lib.hid (tx_own_nil key w)
  go_enter Try.func18, Try.ntmps18
  go_wp2_with fail
  refine H.out.mono ?_
  rintro e1 w1 ⟨⟨k, A, n, c, g, rfl, _⟩, hf1⟩
  have HF := Lib.hid hf1
  clear hf1
  go_wp2_with fail
  go_ret2
  exact ⟨rfl, HF.out.alloc _⟩
end Go.Proofs.Ytkcppngopdiljaa
