/- Arrays made, stored and loaded whole. -/
import Derived.Test.YtlgmodeibmdcgaaDoorRef3
import Derived.Laws.Tables
import Derived.Laws.Rows
set_option linter.unusedVariables false
set_option linter.unusedSimpArgs false
namespace Go.Proofs.YtlgmodeibmdcgaaDoor
open Go.RowKit

set_option maxRecDepth 100000 in
theorem run_alloc64 (w : World) : (Instr.alloc 72 true (.tuple #[])).run Tryd.prog w = .ok (.pointer (some ⟨w.heap.size, 0, none⟩)) (w.alloc (.cells (Array.replicate 64 (.int .u32 0)) 72)) := by
  have e : (Array.replicate 64 (Value.int .u32 0)) = #[.int .u32 0, .int .u32 0, .int .u32 0, .int .u32 0, .int .u32 0, .int .u32 0, .int .u32 0, .int .u32 0, .int .u32 0, .int .u32 0, .int .u32 0, .int .u32 0, .int .u32 0, .int .u32 0, .int .u32 0, .int .u32 0, .int .u32 0, .int .u32 0, .int .u32 0, .int .u32 0, .int .u32 0, .int .u32 0, .int .u32 0, .int .u32 0, .int .u32 0, .int .u32 0, .int .u32 0, .int .u32 0, .int .u32 0, .int .u32 0, .int .u32 0, .int .u32 0, .int .u32 0, .int .u32 0, .int .u32 0, .int .u32 0, .int .u32 0, .int .u32 0, .int .u32 0, .int .u32 0, .int .u32 0, .int .u32 0, .int .u32 0, .int .u32 0, .int .u32 0, .int .u32 0, .int .u32 0, .int .u32 0, .int .u32 0, .int .u32 0, .int .u32 0, .int .u32 0, .int .u32 0, .int .u32 0, .int .u32 0, .int .u32 0, .int .u32 0, .int .u32 0, .int .u32 0, .int .u32 0, .int .u32 0, .int .u32 0, .int .u32 0, .int .u32 0] := by rfl
  rw [e]
  simp [Instr.alloc, Tryd.zeroValue72, newVar, newRow, Value.cells]
theorem wpList_alloc64 {ops : Array Oper} {rest : List Oper} {o : Oper} {a : Act} {w : World} {Q : Exit → Act → World → Prop} (hgd : o.guard = none) (ho : o.op = .alloc 72)
    (h : wpList Tryd.prog ops Q rest (a.put o.dst (.pointer (some ⟨w.heap.size, 0, none⟩))) (w.alloc (.cells (Array.replicate 64 (.int .u32 0)) 72))) : wpList Tryd.prog ops Q (o :: rest) a w := by
  refine wpList_plain hgd fun K hK => ?_
  unfold Oper.wp
  simp only [execOp, ho, Sem.run_bind, Sem.run_pure, Result.andThen_ok, run_alloc64]
  exact hK _ _ h
set_option maxRecDepth 100000 in
theorem wpList_store64 {ops : Array Oper} {rest : List Oper} {o : Oper} {a : Act} {w : World} {Q : Exit → Act → World → Prop} (hgd : o.guard = none) (hd : o.dst = none) (x y : Operand) (ho : o.op = .store 72 x y)
    (c c' : Array Value) (hx : a.eval x = .pointer (some ⟨w.heap.size, 0, none⟩)) (hy : a.eval y = .agg c') (hi : c'.size = 64) (hold : c.size = 64) (h1 : c'.all (·.oneCell') = true)
    (h : wpList Tryd.prog ops Q rest a (w.alloc (.cells c' 72))) : wpList Tryd.prog ops Q (o :: rest) a (w.alloc (.cells c 72)) := by
  have hinfo : (Tryd.prog.info? 72).map (·.size) = some 64 := by kernel_rfl
  refine wpList_store_row hgd _ x y ho _ c' hx hy _ c (heap_alloc_new w _) (by rw [hi]; exact hinfo) (by rw [hi, hold]) h1 ?_
  rw [hd]
  have : (w.alloc (.cells c 72)).setRow w.heap.size c' = w.alloc (.cells c' 72) := by
    simp only [World.setRow, World.alloc]
    congr 1
    apply Array.ext_getElem?
    intro i
    rw [Array.getElem?_modify]
    by_cases h : w.heap.size = i
    · subst h; simp
    · have h' : ¬ i = w.heap.size := fun e => h e.symm
      simp [h, h', Array.getElem?_push]
  rw [this]
  exact h
theorem Words.of {w : World} {b : Nat} {n : Nat} {cs : Array Value} {tt : TypeId} {R : Nat → W32} (hb : w.heap[b]? = some (.cells cs tt (0, 0))) (hs : cs.size = n) (h : ∀ j, j < n → cs[j]? = some (.int .u32 (U (R j)))) : Words w b 0 n R :=
  ⟨cs, tt, hb, by omega, fun j hj => by rw [Nat.zero_add]; exact h j hj⟩
/-- A text of bytes. -/
theorem run_str {w : World} {F : Nat → Prop} {A : Option Addr} {c n : Nat} {xs : Bs} (h : Rd Ty.u8 w F A xs) (hn : n = xs.length) : (convert 30 9 (.slice A n c)).run Tryd.prog w = .ok (.string ⟨xs.toArray⟩) w := by
  subst hn
  cases xs with
  | nil =>
    cases A with
    | none => exact run_convert_bytes_nil (w := w) 30 5 Tryd.underlying30 Tryd.underlying5 0 c 9 Tryd.underlying9
    | some a => exact run_convert_bytes_back w 30 9 5 a c [] Tryd.underlying30 Tryd.underlying5 Tryd.underlying9 (fun j hj => absurd hj (by simp))
  | cons x xs =>
    obtain ⟨a, rfl, _⟩ := u8_at h (i := 0) (by simp)
    refine run_convert_bytes_back w 30 9 5 a c (x :: xs) Tryd.underlying30 Tryd.underlying5 Tryd.underlying9 (fun j hj => ?_)
    obtain ⟨a', e, hc⟩ := u8_at h hj
    obtain rfl : a = a' := Option.some.inj e
    exact hc
end Go.Proofs.YtlgmodeibmdcgaaDoor
