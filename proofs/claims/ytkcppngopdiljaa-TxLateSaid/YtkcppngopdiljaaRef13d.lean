/- Reference 13 (store): Trim. -/
import Derived.Test.YtkcppngopdiljaaRef13b
set_option linter.unusedVariables false
set_option linter.unusedSimpArgs false
namespace Go.Proofs.Ytkcppngopdiljaa
open Go.RowKit

theorem info_rchn : (Try.prog.info? 119).map (fun i => (i.zero, i.size, i.bytes)) = some (some (.agg #[.slice none 0 0, .int .i64 0]), 2, 32) := by kernel_rfl
theorem blk_three1 (w : World) (o o' o'' : Obj) : (((w.alloc o).alloc o').alloc o'').heap[w.heap.size]? = some o := by
  rw [Below.heap_alloc _ _ _ (by simp; omega)]; exact blk_two1 w o o'
theorem blk_three2 (w : World) (o o' o'' : Obj) : (((w.alloc o).alloc o').alloc o'').heap[w.heap.size + 1]? = some o' := by
  rw [Below.heap_alloc _ _ _ (by simp)]; exact blk_two2 w o o'
theorem blk_three3 (w : World) (o o' o'' : Obj) : (((w.alloc o).alloc o').alloc o'').heap[w.heap.size + 2]? = some o'' := by
  have := heap_alloc_new ((w.alloc o).alloc o') o''; rwa [World.size_alloc, World.size_alloc] at this

theorem cut_le (c : Chn) (a : Int) : c.cut a ≤ c.l.length := by
  have := seen_le c a
  unfold Chn.cut
  split
  · split
    · omega
    · split <;> omega
  · omega

/-- What the document's loop holds at a round's head. -/
structure RTrimInv (w W wr : World) (F : Nat → Prop) (s : Sto) (a : Int) (A : Option Addr) (c k : Nat) (v : Value) (n : Nat) : Prop where
  le : k ≤ s.kc.length
  sum : n = ((s.kc.map fun p => p.2.cut a).take k).sum
  blk : wr.heap[w.heap.size + 2]? = some (.cells #[.slice A s.kc.length c, v, .int .i64 s.now] 55 (0, 0))
  own : Ow tChn 119 wr (fun i => (F i ∧ i < w.heap.size) ∨ w.heap.size + 2 < i) v ((s.kc.take k).map fun p => p.2.trim a)
  box : ∀ j, v.ownBlock = some j → w.heap.size + 2 < j
  fr : Fr (fun i => i = w.heap.size + 2) W wr

theorem rtrim_next {w W wr w1 w3 : World} {F : Nat → Prop} {s : Sto} {a : Int} {A A3 : Option Addr} {c c3 k n : Nat} {v : Value} {o1 o2 : Obj} {x : Chn} (hsW : W.heap.size = w.heap.size + 3) (hf1 : Fr No wr w1) (hb1 : w1.heap[w.heap.size + 2]? = some (.cells #[.slice A s.kc.length c, v, .int .i64 s.now] 55 (0, 0)))
    (I : RTrimInv w W wr F s a A c k v n) (ho : Ow tChn 119 w3 (fun i => ((F i ∧ i < w.heap.size) ∨ w.heap.size + 2 < i) ∨ ((w1.alloc o1).alloc o2).heap.size ≤ i) (.slice A3 (k + 1) c3) (((s.kc.take k).map fun p => p.2.trim a) ++ [x]))
    (hg : ((w1.alloc o1).alloc o2).grownBy w3 v.ownBlock) (hat : (Value.slice A3 (k + 1) c3).ownBlock = v.ownBlock ∨ (Value.slice A3 (k + 1) c3).ownBlock = some ((w1.alloc o1).alloc o2).heap.size) :
    w3.heap[w.heap.size + 2]? = some (.cells #[.slice A s.kc.length c, v, .int .i64 s.now] 55 (0, 0)) ∧
    (w3.setCell ⟨w.heap.size + 2, 1, none⟩ (.slice A3 (k + 1) c3)).heap[w.heap.size + 2]? = some (.cells #[.slice A s.kc.length c, .slice A3 (k + 1) c3, .int .i64 s.now] 55 (0, 0)) ∧
    Ow tChn 119 (w3.setCell ⟨w.heap.size + 2, 1, none⟩ (.slice A3 (k + 1) c3)) (fun i => (F i ∧ i < w.heap.size) ∨ w.heap.size + 2 < i) (.slice A3 (k + 1) c3) (((s.kc.take k).map fun p => p.2.trim a) ++ [x]) ∧
    (∀ j, (Value.slice A3 (k + 1) c3).ownBlock = some j → w.heap.size + 2 < j) ∧ Fr (fun i => i = w.heap.size + 2) W (w3.setCell ⟨w.heap.size + 2, 1, none⟩ (.slice A3 (k + 1) c3)) := by
  have hlt := blk_lt hb1
  have hb2 : ((w1.alloc o1).alloc o2).heap[w.heap.size + 2]? = some (.cells #[.slice A s.kc.length c, v, .int .i64 s.now] 55 (0, 0)) := (((Fr.refl No w1).alloc o1).alloc o2).blk hb1 (fun f => f)
  have hb3 := (hg.block (w.heap.size + 2) (blk_lt hb2) (fun e => by have := I.box _ e.symm; omega)).trans hb2
  have hb4 := blk_set hb3 1 (.slice A3 (k + 1) c3)
  have hn : ¬ (((F (w.heap.size + 2) ∧ w.heap.size + 2 < w.heap.size) ∨ w.heap.size + 2 < w.heap.size + 2) ∨ ((w1.alloc o1).alloc o2).heap.size ≤ w.heap.size + 2) := by simp; omega
  refine ⟨hb3, by simpa using hb4, (ho.set ⟨w.heap.size + 2, 1, none⟩ hn _).mono fun i hi _ => ?_, fun j hj => ?_, ?_⟩
  · rcases hi with hi | hi
    · exact hi
    · simp at hi; exact .inr (by omega)
  · rcases hat with hat | hat
    · exact I.box j (by rw [← hat]; exact hj)
    · rw [hj] at hat; injection hat with hat; simp at hat; omega
  · have h1 : Fr (fun i => i = w.heap.size + 2) W ((w1.alloc o1).alloc o2) := ((I.fr.trans (hf1.mono fun _ _ f => f.elim)).alloc o1).alloc o2
    have h3 : Fr (fun i => i = w.heap.size + 2) W w3 := h1.grown hg fun j hj => .inr (by have := I.box j hj; omega)
    exact h3.set _ (.inl rfl) _

end Go.Proofs.Ytkcppngopdiljaa
