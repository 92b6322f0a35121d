/- Layer 12 (chain): versions, and what is done with them, as plain functions. -/
import Derived.Test.YtkcppngopdiljaaLib
set_option linter.unusedVariables false
namespace Go.Proofs.Ytkcppngopdiljaa

abbrev Bs := List UInt8
/-- A row, or that it is gone, from a number on. -/
structure Ver where
  at_ : Int
  row : Bs
  gone : Bool
/-- Versions, the oldest first, and the greatest number. -/
structure Chn where
  l : List Ver
  last : Int

namespace Chn
def empty : Chn := ⟨[], 0⟩
def put (c : Chn) (a : Int) (row : Bs) (gone : Bool) : Chn := ⟨c.l ++ [⟨a, row, gone⟩], a⟩
/-- How many aren't above a number (they rise). -/
def seen (c : Chn) (a : Int) : Nat := (c.l.takeWhile fun v => decide (v.at_ ≤ a)).length
def get (c : Chn) (a : Int) : Option Bs :=
  match c.l[c.seen a - 1]? with
  | some v => if c.seen a = 0 then none else if v.gone then none else some v.row
  | none => none
/-- How many are let go. -/
def cut (c : Chn) (a : Int) : Nat :=
  match c.l[c.seen a - 1]? with
  | some v => if c.seen a = 0 then 0 else if v.gone then c.seen a else c.seen a - 1
  | none => 0
def trim (c : Chn) (a : Int) : Chn := ⟨c.l.drop (c.cut a), c.last⟩
/-- Numbers rise, and none is above the greatest. -/
def Ok (c : Chn) : Prop := c.l.Pairwise (fun x y => x.at_ < y.at_) ∧ ∀ v ∈ c.l, v.at_ ≤ c.last
end Chn

def tVer : Ty Ver := Ty.iso (Ty.pair (Ty.int .i64) (Ty.pair (Ty.slice Ty.u8) Ty.bool)) fun x => (x.at_, x.row, x.gone)
theorem tVer_open {w : World} {F : Nat → Prop} {x : Ver} {cs : List Value} (h : tVer.K w F x cs) :
    ∃ A c, cs = [.int .i64 x.at_, .slice A x.row.length c, .bool x.gone] ∧ x.row.length ≤ c ∧ Rd Ty.u8 w F A x.row := by
  obtain ⟨_, _, rfl, rfl, _, _, rfl, ⟨A, c, rfl, h1, h2⟩, rfl⟩ := h
  exact ⟨A, c, rfl, h1, h2⟩
theorem tVer_mk {w : World} {F : Nat → Prop} {a : Int} {r : Bs} {g : Bool} {A : Option Addr} {c : Nat} (h1 : r.length ≤ c) (h2 : Rd Ty.u8 w F A r) :
    tVer.K w F ⟨a, r, g⟩ [.int .i64 a, .slice A r.length c, .bool g] :=
  ⟨_, [_, _], rfl, rfl, [_], [_], rfl, ⟨A, c, rfl, h1, h2⟩, rfl⟩
end Go.Proofs.Ytkcppngopdiljaa
