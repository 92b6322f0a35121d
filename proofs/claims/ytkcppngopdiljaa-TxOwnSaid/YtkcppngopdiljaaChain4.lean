/- Layer 12 (chain), third part: Trim. -/
import Derived.Test.YtkcppngopdiljaaChain3
set_option linter.unusedVariables false
set_option linter.unusedSimpArgs false
namespace Go.Proofs.Ytkcppngopdiljaa
open Go.RowKit

theorem Chn.ok_trim {c : Chn} (h : c.Ok) (a : Int) : (c.trim a).Ok :=
  ⟨h.1.sublist (List.drop_sublist _ _), fun v hv => h.2 v (List.mem_of_mem_drop hv)⟩

theorem chain_shut1 {w w3 : World} {F : Nat → Prop} {b : Nat} {c : Chn} {v v3 : Value} (hf : F b) (lb : b < w.heap.size) (ho : c.Ok) (hb : w3.heap[b]? = some (.cells #[v, .int .i64 c.last] 137 (0, 0)))
    (hw : Ow tVer 134 w3 (fun k => (F k ∧ k ≠ b) ∨ w.heap.size ≤ k) v3 c.l) (hW : Fr F w w3) :
    ChainAt (w3.setCell ⟨b, 0, none⟩ v3) (fun k => F k ∨ w.heap.size ≤ k) b c ∧ Fr F w (w3.setCell ⟨b, 0, none⟩ v3) := by
  refine ⟨⟨.inl hf, ho, v3, by simpa using blk_set hb 0 v3, ?_⟩, hW.set _ (.inl hf) _⟩
  have hn : ¬ ((F b ∧ b ≠ b) ∨ w.heap.size ≤ b) := by rintro (⟨_, h⟩ | h); exact h rfl; omega
  refine (hw.set _ hn _).mono fun k hk _ => ?_
  rcases hk with hk | hk
  · exact ⟨.inl hk.1, hk.2⟩
  · exact ⟨.inr hk, by omega⟩

end Go.Proofs.Ytkcppngopdiljaa
