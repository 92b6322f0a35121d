/- Do some texts stand in others, one behind the other: plain. -/
import Derived.Test.YtkjlipclimfoeaaGreatDoorRef1
set_option linter.unusedVariables false
set_option linter.unusedSimpArgs false
namespace Go.Proofs.YtkjlipclimfoeaaGreatDoor
open Go.RowKit

theorem Fr.next {F G : Nat → Prop} {a b c : World} (h : Fr F a b) (k : Fr G b c) (hk : ∀ i, i < a.heap.size → G i → F i) : Fr F a c :=
  ⟨k.os.trans h.os, k.tape.trans h.tape, k.output.trans h.output, Nat.le_trans h.size k.size, fun i hi hn => (k.block i (Nat.lt_of_lt_of_le hi h.size) (fun g => hn (hk i hi g))).trans (h.block i hi hn)⟩
/-- a stands in b at i. -/
def PreAt (a b : List ByteArray) (i : Nat) : Prop := i + a.length ≤ b.length ∧ (b.take (i + a.length)).drop i = a
def Pre (a b : List ByteArray) : Prop := ∃ i, PreAt a b i
theorem Pre.nil (b : List ByteArray) : Pre [] b := ⟨0, by simp, by simp⟩
theorem Pre.mid (b : List ByteArray) {i j : Nat} (h : i ≤ j) (hj : j ≤ b.length) : Pre ((b.take j).drop i) b := by
  have e : ((b.take j).drop i).length = j - i := by rw [List.length_drop, List.length_take]; omega
  refine ⟨i, by omega, ?_⟩
  rw [e, show i + (j - i) = j by omega]
theorem pre_none {a b : List ByteArray} (h : ∀ i, i ≤ b.length → ¬ PreAt a b i) : ¬ Pre a b := fun ⟨i, hi⟩ => h i (by have := hi.1; omega) hi
instance (a b : List ByteArray) (i : Nat) : Decidable (PreAt a b i) := inferInstanceAs (Decidable (_ ∧ _))
/-- A text of one byte. -/
def one (b : UInt8) : ByteArray := ⟨#[b]⟩
theorem stands_yes : Pre [one 98, one 99] [one 97, one 98, one 99, one 100] := ⟨1, by decide⟩
theorem stands_no : ¬ Pre [one 99, one 98] [one 97, one 98, one 99, one 100] := pre_none (by
  intro i hi
  have : i = 0 ∨ i = 1 ∨ i = 2 ∨ i = 3 ∨ i = 4 := by simp at hi; omega
  rcases this with rfl | rfl | rfl | rfl | rfl <;> decide)
end Go.Proofs.YtkjlipclimfoeaaGreatDoor
