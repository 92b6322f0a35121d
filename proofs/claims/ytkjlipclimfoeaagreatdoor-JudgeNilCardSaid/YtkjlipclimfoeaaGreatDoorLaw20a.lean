/- Laws of layer 20 (judge): stands, Right of no engine. -/
import Derived.Test.YtkjlipclimfoeaaGreatDoorPrefix
set_option linter.unusedVariables false
set_option linter.unusedSimpArgs false
namespace Go.Proofs.YtkjlipclimfoeaaGreatDoor
open Go.RowKit

set_option maxHeartbeats 2000000 in
set_option maxRecDepth 100000 in
theorem right_nil {w : World} (v : Value) : Calls Tryz.prog 10 #[v, .pointer none] w fun e w' => e = .returned (.bool true) ∧ w' = w := by
  go_enter Tryz.func10, Tryz.ntmps10
  go_wp2_with fail
  go_ret
  exact ⟨rfl, rfl⟩

theorem blk_two1 (w : World) (o o' : Obj) : ((w.alloc o).alloc o').heap[w.heap.size]? = some o := by
  rw [Below.heap_alloc _ _ _ (by simp)]; exact heap_alloc_new w o
theorem blk_two2 (w : World) (o o' : Obj) : ((w.alloc o).alloc o').heap[w.heap.size + 1]? = some o' := by
  have := heap_alloc_new (w.alloc o) o'; rwa [World.size_alloc] at this
/-- Texts in an array of their own. -/
theorem rd_arr {w : World} {g : Nat} {l : List ByteArray} (h : w.heap[g]? = some (.cells (l.map Value.string).toArray 9 (0, 0))) (hl : l.length ≤ 1000) : Rd Ty.str w (fun _ => True) (some ⟨g, 0, none⟩) l := by
  refine ⟨by omega, l.map Value.string, ?_, fun j u hu => ⟨_, rfl, trivial, by rw [add0, blk_cell h]; simpa using hu⟩⟩
  clear h hl
  induction l with
  | nil => rfl
  | cons x l ih => exact ⟨[.string x], l.map Value.string, rfl, rfl, ih⟩

set_option maxHeartbeats 4000000 in
set_option maxRecDepth 100000 in
theorem stands_ok {w : World} : Calls Tryz.prog 5 #[] w fun e w' => e = .returned (.bool true) ∧ Fr No w w' := by
  have hp1 := fun (w1 : World) (g h : Nat) (h1 : w1.heap[g]? = some (.cells #[.string (one 98), .string (one 99)] 9 (0, 0))) (h2 : w1.heap[h]? = some (.cells #[.string (one 97), .string (one 98), .string (one 99), .string (one 100)] 9 (0, 0))) => prefix_ok (c := 2) (d := 4) (rd_arr (l := [one 98, one 99]) h1 (by decide)) (rd_arr (l := [one 97, one 98, one 99, one 100]) h2 (by decide)) (by decide) (by decide) (by decide)
  have hp2 := fun (w1 : World) (g h : Nat) (h1 : w1.heap[g]? = some (.cells #[.string (one 99), .string (one 98)] 9 (0, 0))) (h2 : w1.heap[h]? = some (.cells #[.string (one 97), .string (one 98), .string (one 99), .string (one 100)] 9 (0, 0))) => prefix_ok (c := 2) (d := 4) (rd_arr (l := [one 99, one 98]) h1 (by decide)) (rd_arr (l := [one 97, one 98, one 99, one 100]) h2 (by decide)) (by decide) (by decide) (by decide)
  have H := Lib.hid (And.intro hp1 hp2)
  have HR := Lib.hid (fun (w : World) (v : Value) => right_nil (w := w) v)
  clear hp1 hp2
  go_enter Tryz.func5, Tryz.ntmps5
  go_wp2_with fail
  refine (H.out.1 _ _ _ (blk_two1 _ _ _) (blk_two2 _ _ _)).mono ?_
  rintro e w1 ⟨b, rfl, hb, hf1⟩
  obtain rfl : b = true := hb.2 stands_yes
  have H1 := Lib.hid ((((Fr.refl No w).alloc _).alloc _).next hf1 (fun _ _ f => f.elim))
  clear hb hf1
  go_wp2_with fail
  refine (H.out.2 _ _ _ (blk_two1 _ _ _) (blk_two2 _ _ _)).mono ?_
  rintro e w2 ⟨b, rfl, hb, hf2⟩
  obtain rfl : b = false := by
    cases b with
    | false => rfl
    | true => exact absurd (hb.1 rfl) stands_no
  have H2 := Lib.hid (((H1.out.alloc _).alloc _).next hf2 (fun _ _ f => f.elim))
  clear hb hf2
  go_wp2_with fail
  refine (HR.out _ _).mono ?_
  rintro e w3 ⟨rfl, rfl⟩
  go_wp2_with fail
  go_ret
  exact ⟨rfl, H2.out⟩
end Go.Proofs.YtkjlipclimfoeaaGreatDoor
