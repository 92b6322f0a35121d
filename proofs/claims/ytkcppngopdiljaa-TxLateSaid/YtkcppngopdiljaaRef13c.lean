/- Reference 13 (store): Scan. -/
import Derived.Test.YtkcppngopdiljaaRef13b
set_option linter.unusedVariables false
set_option linter.unusedSimpArgs false
namespace Go.Proofs.Ytkcppngopdiljaa
open Go.RowKit

theorem info_ritem : (Try.prog.info? 107).map (fun i => (i.zero, i.size, i.bytes)) = some (some (.agg #[.string ⟨#[]⟩, .slice none 0 0]), 2, 40) := by kernel_rfl

theorem size_zero {b : ByteArray} (h : b.size = 0) : b = ByteArray.empty := by
  cases b with
  | mk d => cases d with
    | mk l => cases l with
      | nil => rfl
      | cons x l => exact absurd h (by show ¬ (l.length + 1 = 0); omega)
/-- What the document's loop holds at a round's head: k keys were seen. -/
structure RScanInv (w wr : World) (F : Nat → Prop) (s : Sto) (a : Int) (lo hi : ByteArray) (most : Int) (k n : Nat) (v : Value) : Prop where
  le : k ≤ s.kc.length
  len : n = ((s.kc.take k).filterMap (Sto.sel a lo hi)).length
  own : Ow tItem 107 wr (fun i => (F i ∧ i < w.heap.size) ∨ w.heap.size < i) v ((s.kc.take k).filterMap (Sto.sel a lo hi))
  most : (((s.kc.take k).filterMap (Sto.sel a lo hi)).length : Int) ≤ max most 0
  box : ∀ j, v.ownBlock = some j → w.heap.size < j
theorem RScanInv.skip {w wr wr' : World} {F : Nat → Prop} {s : Sto} {a : Int} {lo hi : ByteArray} {most : Int} {k n : Nat} {v : Value} (I : RScanInv w wr F s a lo hi most k n v) {q : ByteArray × Chn} (hk : k < s.kc.length)
    (hs : (s.kc.take (k + 1)).filterMap (Sto.sel a lo hi) = (s.kc.take k).filterMap (Sto.sel a lo hi) ++ (Sto.sel a lo hi q).toList) (hn : Sto.sel a lo hi q = none) (f : Fr No wr wr') : RScanInv w wr' F s a lo hi most (k + 1) n v := by
  rw [hn] at hs
  have e : (s.kc.take (k + 1)).filterMap (Sto.sel a lo hi) = (s.kc.take k).filterMap (Sto.sel a lo hi) := by simpa using hs
  exact ⟨hk, by rw [e]; exact I.len, by rw [e]; exact I.own.fr0 f, by rw [e]; exact I.most, I.box⟩

theorem RScanInv.add {w wr W w' : World} {F : Nat → Prop} {s : Sto} {a : Int} {lo hi : ByteArray} {most : Int} {k n c2 c : Nat} {A2 A : Option Addr} (I : RScanInv w wr F s a lo hi most k n (.slice A2 n c2)) {q : ByteArray × Chn} {x : Item} (hk : k < s.kc.length)
    (hs : (s.kc.take (k + 1)).filterMap (Sto.sel a lo hi) = (s.kc.take k).filterMap (Sto.sel a lo hi) ++ (Sto.sel a lo hi q).toList) (hn : Sto.sel a lo hi q = some x) (hm : (n : Int) < most) (hW : w.heap.size < W.heap.size)
    (ho : Ow tItem 107 w' (fun i => ((F i ∧ i < w.heap.size) ∨ w.heap.size < i) ∨ W.heap.size ≤ i) (.slice A (n + 1) c) ((s.kc.take k).filterMap (Sto.sel a lo hi) ++ [x]))
    (hat : (Value.slice A (n + 1) c).ownBlock = (Value.slice A2 n c2).ownBlock ∨ (Value.slice A (n + 1) c).ownBlock = some W.heap.size) : RScanInv w w' F s a lo hi most (k + 1) (n + 1) (.slice A (n + 1) c) := by
  rw [hn] at hs
  have e : (s.kc.take (k + 1)).filterMap (Sto.sel a lo hi) = (s.kc.take k).filterMap (Sto.sel a lo hi) ++ [x] := hs
  have hl := I.len
  refine ⟨hk, by rw [e]; simp; omega, by rw [e]; exact ho.mono fun i hi _ => (by rcases hi with hi | hi; exact hi; exact .inr (by omega)), by rw [e]; simp; omega, fun j hj => ?_⟩
  · rcases hat with hat | hat
    · exact I.box j (by rw [← hat]; exact hj)
    · rw [hj] at hat; injection hat with hat; omega

end Go.Proofs.Ytkcppngopdiljaa
