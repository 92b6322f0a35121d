/- Laws of layer 9 (trie): TrieHalves: what it keeps; plain. -/
import Derived.Test.YtlgmodeibmdcgaaDoorLaw9c
set_option linter.unusedVariables false
set_option linter.unusedSimpArgs false
namespace Go.Proofs.YtlgmodeibmdcgaaDoor
open Go.RowKit

/-- The items down a path. -/
def downI (m : List Itm) (path : List Bool) : Nat → List Itm
  | 0 => m
  | i + 1 => half hbit (downI m path i) i (path.getD i false)
theorem downI_good {m : List Itm} (g : GoodM m) (path : List Bool) (i : Nat) : GoodM (downI m path i) := by
  induction i with
  | zero => exact g
  | succ i ih => exact ih.sub List.filter_sublist
theorem downI_len (m : List Itm) (path : List Bool) (i : Nat) : (downI m path i).length ≤ m.length := by
  induction i with
  | zero => exact Nat.le_refl _
  | succ i ih => exact Nat.le_trans (half_le _ _ _) ih
theorem downI_sep {m : List Itm} (g : GoodM m) (path : List Bool) : ∀ {i n : Nat}, n + i = 256 → Sep hbit n (downI m path i) i := by
  intro i
  induction i with
  | zero =>
    intro n hn
    obtain rfl : n = 256 := by omega
    exact g.sep
  | succ i ih => intro n hn; exact (ih (n := n + 1) (by omega)).half _

/-- What stands at a round's head. -/
structure HalvAt (B : Nat) (w wr : World) (m : List Itm) (path : List Bool) (v : Value) (A : Option Addr) (n i : Nat) : Prop where
  len : n = (downI m path i).length
  node : NodeAt B wr v (build hbit (256 - i) (downI m path i) i)
  its : RdI B wr A (downI m path i)
  fr : Fr No w wr
theorem HalvAt.fr0 {B : Nat} {w wr wr' : World} {m : List Itm} {path : List Bool} {v : Value} {A : Option Addr} {n i : Nat} (h : HalvAt B w wr m path v A n i) (f : Fr No wr wr') : HalvAt B w wr' m path v A n i :=
  ⟨h.len, h.node.fr0 f, h.its.fr0 f, h.fr.next f (fun _ _ f => f.elim)⟩
theorem bool_at {w : World} {F : Nat → Prop} {A : Option Addr} {l : List Bool} (h : Rd Ty.bool w F A l) {i : Nat} (hi : i < l.length) : ∃ ad, A = some ad ∧ w.cell? (ad.add i) = some (.bool l[i]) := by
  obtain ⟨ad, c, e, hk, e0, _⟩ := h.get' hi (by decide)
  obtain rfl : c = _ := hk
  have := e0 _ rfl
  rw [show Ty.bool.sz = 1 from rfl, Nat.mul_one] at this
  exact ⟨ad, e, this⟩
end Go.Proofs.YtlgmodeibmdcgaaDoor
