/- Laws of layer 14 (tx): TxWrites. -/
import Derived.Test.YtkcppngopdiljaaLaw23
import Derived.Test.YtkcppngopdiljaaRef06c
set_option linter.unusedVariables false
set_option linter.unusedSimpArgs false
namespace Go.Proofs.Ytkcppngopdiljaa
open Go.RowKit

set_option maxHeartbeats 2000000 in
set_option maxRecDepth 100000 in
theorem law_txwrites_ok {w : World} {G : Nat → Prop} {E : Option Addr} {e1 : Nat} {l : List Actn} (base : Int) (h : Rd tAct w G E l) (hl : l.length ≤ 60) :
    Calls Try.prog 4 #[.int .i64 base, .slice E l.length e1] w fun e w' => e = .returned (.bool true) ∧ Fr No w w' := by
  have hlI : (l.length : Int) ≤ 60 := by omega
  have hwr := fun w' (f : Fr No w w') => law_written (e1 := e1) base (h.fr0 f) (by omega)
  have hok := wrAll_ok nil_ok l
  obtain ⟨ws, hws⟩ : ∃ ws, wrAll [] l = ws := ⟨_, rfl⟩
  simp only [hws] at hwr hok
  have hbb : (base == base) = true := by simp
  have H := Lib.hid (And.intro hwr hok)
  clear hwr hok h hws
  go_enter Try.func4, Try.ntmps4
  go_wp2_with fail
  refine (law_both w).mono ?_
  rintro e1 w1 ⟨rfl, hf1⟩
  have HF1 := Lib.hid hf1
  clear hf1
  go_wp2_with fail
  refine (H.out.1 _ HF1.out).mono ?_
  rintro e3 w3 ⟨xb, A, c, rfl, hc, ⟨FX, FM, hT, hM, hdis⟩, hf3⟩
  obtain ⟨W, hW⟩ : ∃ W, W = w3.alloc (.cells #[.int .i64 base, .slice A ws.length c] 34) := ⟨_, rfl⟩
  have hfW : Fr No w3 W := by rw [hW]; exact (Fr.refl No w3).alloc _
  have hbW : W.heap[w3.heap.size]? = some (.cells #[.int .i64 base, .slice A ws.length c] 34 (0, 0)) := by rw [hW]; exact heap_alloc_new w3 _
  have hws := tx_writes (hT.fr0 hfW) (by have := H.out.2.len; omega) (fun x hx => by have := H.out.2.small x hx; exact ⟨by omega, by omega⟩)
  have HW := Lib.hid (And.intro hws (And.intro (hT.fr0 hfW) (And.intro (hM.fr0 hfW) (And.intro hbW ((HF1.out.trans (hf3.mono fun _ _ f => f.elim)).trans (hfW.mono fun _ _ f => f.elim))))))
  clear hws hT hM hdis hf3 hfW hbW
  go_wp2_with fail
  rw [← hW]
  clear hW
  refine HW.out.1.mono ?_
  rintro e4 w4 ⟨A4, c4, rfl, ho4, hf4⟩
  have hbase := tx_base (HW.out.2.1.fr0 hf4)
  have hsame := ref_same (c := c4) (d := c) 0 ho4.rd.2.2.wrO (HW.out.2.2.1.fr0 hf4)
  have hb4 := hf4.blk HW.out.2.2.2.1 (fun f => f)
  have a0 := blk_cell hb4 0
  have a1 := blk_cell hb4 1
  simp at a0 a1
  have HS := Lib.hid (And.intro hbase (And.intro hsame (HW.out.2.2.2.2.trans (hf4.mono fun _ _ f => f.elim))))
  clear hbase hsame ho4 hf4 hb4
  go_wp2_with fail
  refine HS.out.1.mono ?_
  rintro e5 w5 ⟨rfl, rfl⟩
  go_wp2_with fail
  refine HS.out.2.1.mono ?_
  rintro e6 w6 ⟨rfl, hf6⟩
  have HE := Lib.hid (HS.out.2.2.trans (hf6.mono fun _ _ f => f.elim))
  clear hf6
  go_wp2_with fail
  go_ret
  exact ⟨rfl, HE.out⟩

set_option maxHeartbeats 2000000 in
set_option maxRecDepth 100000 in
theorem law_txwrites {w : World} {G : Nat → Prop} {E : Option Addr} {e1 : Nat} {l : List Actn} (base : Int) (h : Rd tAct w G E l) :
    Calls Try.prog 4 #[.int .i64 base, .slice E l.length e1] w fun e w' => e = .returned (.bool true) ∧ Fr No w w' := by
  have hone := Lib.hid law_both
  have hli : (l.length : Int) ≤ 9223372036854775807 := by have := h.1; omega
  by_cases hl : l.length ≤ 60
  · exact law_txwrites_ok base h hl
  · · have hl2 : 60 < (l.length : Int) := by omega
      clear h hl
      go_enter Try.func4, Try.ntmps4
      go_wp2_with fail
      refine (hone.out w).mono ?_
      rintro e1 w1 ⟨rfl, hf1⟩
      have HF1 := Lib.hid (hf1)
      clear hf1
      go_wp2_with fail
      refine (hone.out w1).mono ?_
      rintro e2 w2 ⟨rfl, hf2⟩
      have HF2 := Lib.hid (HF1.out.trans (hf2.mono fun _ _ f => f.elim))
      clear hf2
      go_wp2_with fail
      go_ret
      exact ⟨rfl, HF2.out⟩
end Go.Proofs.Ytkcppngopdiljaa
