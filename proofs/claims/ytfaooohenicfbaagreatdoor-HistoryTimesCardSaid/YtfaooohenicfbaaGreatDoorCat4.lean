/- slices.Concat of four. -/
import Derived.Test.YtfaooohenicfbaaGreatDoorCat
set_option linter.unusedVariables false
set_option linter.unusedSimpArgs false
namespace Go.Proofs.YtfaooohenicfbaaGreatDoor
open Go.RowKit

set_option maxHeartbeats 2000000 in
set_option maxRecDepth 100000 in
theorem concat4 {w : World} {g : Nat} {tt : TypeId} {A1 A2 A3 B4 : Option Addr} {c1 c2 c3 d4 : Nat} {x y z u : Bs} (hb : w.heap[g]? = some (.cells #[.slice A1 x.length c1, .slice A2 y.length c2, .slice A3 z.length c3, .slice B4 u.length d4] tt (0, 0)))
    (h1 : Rd Ty.u8 w (fun _ => True) A1 x) (h2 : Rd Ty.u8 w (fun _ => True) A2 y) (h3 : Rd Ty.u8 w (fun _ => True) A3 z) (h4 : Rd Ty.u8 w (fun _ => True) B4 u) (hl : x.length + y.length + z.length + u.length ≤ 1000000000) :
    Calls Tryz.prog 113 #[.slice (some ⟨g, 0, none⟩) 4 4] w fun e w' => ∃ A c, e = .returned (.slice A (x ++ y ++ z ++ u).length c) ∧ Ow Ty.u8 5 w' (fun i => w.heap.size ≤ i) (.slice A (x ++ y ++ z ++ u).length c) (x ++ y ++ z ++ u) ∧ Fr No w w' := by
  have k0 := blk_cell hb 0
  have k1 := blk_cell hb 1
  have k2 := blk_cell hb 2
  have k3 := blk_cell hb 3
  simp at k0 k1 k2 k3
  have n1 : (x.length : Int) ≤ 1000000000 := by omega
  have n2 : (y.length : Int) ≤ 1000000000 := by omega
  have n3 : (z.length : Int) ≤ 1000000000 := by omega
  have n4 : (u.length : Int) ≤ 1000000000 := by omega
  have HG := Lib.hid (fun w => grow_ok w ((x.length : Int) + (y.length : Int) + (z.length : Int) + (u.length : Int)) (by omega) (by omega))
  have HH := Lib.hid (And.intro h1 (And.intro h2 (And.intro h3 (And.intro h4 (And.intro hl hb)))))
  clear h1 h2 h3 h4 hl hb
  have e1 : (x ++ y ++ z ++ u).length = x.length + y.length + z.length + u.length := by rw [List.length_append, List.length_append, List.length_append]
  rw [e1]
  clear e1
  go_enter Tryz.func113, Tryz.ntmps113
  go_wp2_with fail
  refine wp_loop_rounds 5 ?_
  rw [rounds_succ]
  go_wp2_with fail
  rw [rounds_succ]
  go_wp2_with fail
  rw [rounds_succ]
  go_wp2_with fail
  rw [rounds_succ]
  go_wp2_with fail
  rw [rounds_succ]
  go_wp2_with fail
  refine (HG.out _).mono ?_
  rintro e1 w1 ⟨A0, c0, rfl, hO, hf⟩
  have k0 := hf.cell k0 (fun f => f)
  have k1 := hf.cell k1 (fun f => f)
  have k2 := hf.cell k2 (fun f => f)
  have k3 := hf.cell k3 (fun f => f)
  have H0 := Lib.hid (And.intro hO hf)
  clear hO hf
  go_wp2_with fail
  refine wp_loop_rounds 5 ?_
  rw [rounds_succ]
  obtain ⟨cs1, hrow1, hat1⟩ := (HH.out.1.fr0 H0.out.2).at
  obtain ⟨A4, c4, w4, hrun4, hO4, hg4, _⟩ := run_ow_append (P := Tryz.prog) (ty := 33) (ty' := 33) Ty.u8 H0.out.1 (.int .u8 0) 1 Tryz.underlying33 info_u8 rfl (by decide) (by decide) c1 (ys := x) (hrow1.imp fun _ _ h => h) hat1 (by have := HH.out.2.2.2.2.1; simp; omega)
  simp only [List.length_nil, Nat.zero_add, List.nil_append] at hrun4 hO4
  have hf4 : Fr No w w4 := H0.out.2.grown hg4 fun k hk => .inr (H0.out.1.own hk).1
  have hO4' : Ow Ty.u8 5 w4 (fun i => w.heap.size ≤ i) (.slice A4 x.length c4) x := hO4.mono fun i hi _ => by have := H0.out.2.size; rcases hi with h | h <;> omega
  have k0' := hf4.cell (blk_cell HH.out.2.2.2.2.2 0) (fun f => f)
  have H4 := Lib.hid (And.intro hO4' hf4)
  clear hO4 hO4' hf4 hg4 hrow1 hat1 k0'
  go_wp2_with (at_builtin; refine wpList_plain rfl fun K hK => wp_append_run _ _ _ _ rfl rfl rfl hrun4 (hK _ _ ?_))
  clear hrun4
  have k1 := H4.out.2.cell (blk_cell HH.out.2.2.2.2.2 1) (fun f => f)
  simp at k1
  rw [rounds_succ]
  obtain ⟨cs2, hrow2, hat2⟩ := (HH.out.2.1.fr0 H4.out.2).at
  obtain ⟨A5, c5, w5, hrun5, hO5, hg5, _⟩ := run_ow_append (P := Tryz.prog) (ty := 33) (ty' := 33) Ty.u8 H4.out.1 (.int .u8 0) 1 Tryz.underlying33 info_u8 rfl (by decide) (by decide) c2 (ys := y) (hrow2.imp fun _ _ h => h) hat2 (by have := HH.out.2.2.2.2.1; omega)
  have hf5 : Fr No w w5 := H4.out.2.grown hg5 fun k hk => .inr (H4.out.1.own hk).1
  have hO5' : Ow Ty.u8 5 w5 (fun i => w.heap.size ≤ i) (.slice A5 (x.length + y.length) c5) (x ++ y) := hO5.mono fun i hi _ => by have := H4.out.2.size; rcases hi with h | h <;> omega
  have H5 := Lib.hid (And.intro hO5' hf5)
  clear hO5 hO5' hf5 hg5 hrow2 hat2
  go_wp2_with (at_builtin; refine wpList_plain rfl fun K hK => wp_append_run _ _ _ _ rfl rfl rfl hrun5 (hK _ _ ?_))
  clear hrun5
  have k2 := H5.out.2.cell (blk_cell HH.out.2.2.2.2.2 2) (fun f => f)
  simp at k2
  rw [rounds_succ]
  obtain ⟨cs3, hrow3, hat3⟩ := (HH.out.2.2.1.fr0 H5.out.2).at
  obtain ⟨A6, c6, w6, hrun6, hO6, hg6, _⟩ := run_ow_append (P := Tryz.prog) (ty := 33) (ty' := 33) Ty.u8 H5.out.1 (.int .u8 0) 1 Tryz.underlying33 info_u8 rfl (by decide) (by decide) c3 (ys := z) (hrow3.imp fun _ _ h => h) hat3 (by have := HH.out.2.2.2.2.1; rw [List.length_append]; omega)
  rw [List.length_append] at hrun6 hO6
  have hf6 : Fr No w w6 := H5.out.2.grown hg6 fun k hk => .inr (H5.out.1.own hk).1
  have hO6' : Ow Ty.u8 5 w6 (fun i => w.heap.size ≤ i) (.slice A6 (x.length + y.length + z.length) c6) (x ++ y ++ z) := hO6.mono fun i hi _ => by have := H5.out.2.size; rcases hi with h | h <;> omega
  have H6 := Lib.hid (And.intro hO6' hf6)
  clear hO6 hO6' hf6 hg6 hrow3 hat3
  go_wp2_with (at_builtin; refine wpList_plain rfl fun K hK => wp_append_run _ _ _ _ rfl rfl rfl hrun6 (hK _ _ ?_))
  clear hrun6
  have k3 := H6.out.2.cell (blk_cell HH.out.2.2.2.2.2 3) (fun f => f)
  simp at k3
  rw [rounds_succ]
  obtain ⟨cs4, hrow4, hat4⟩ := (HH.out.2.2.2.1.fr0 H6.out.2).at
  obtain ⟨A7, c7, w7, hrun7, hO7, hg7, _⟩ := run_ow_append (P := Tryz.prog) (ty := 33) (ty' := 33) Ty.u8 H6.out.1 (.int .u8 0) 1 Tryz.underlying33 info_u8 rfl (by decide) (by decide) d4 (ys := u) (hrow4.imp fun _ _ h => h) hat4 (by have := HH.out.2.2.2.2.1; rw [List.length_append, List.length_append]; omega)
  rw [List.length_append, List.length_append] at hrun7 hO7
  have hf7 : Fr No w w7 := H6.out.2.grown hg7 fun k hk => .inr (H6.out.1.own hk).1
  have hO7' : Ow Ty.u8 5 w7 (fun i => w.heap.size ≤ i) (.slice A7 (x.length + y.length + z.length + u.length) c7) (x ++ y ++ z ++ u) := hO7.mono fun i hi _ => by have := H6.out.2.size; rcases hi with h | h <;> omega
  have H7 := Lib.hid (And.intro hO7' hf7)
  clear hO7 hO7' hf7 hg7 hrow4 hat4
  go_wp2_with (at_builtin; refine wpList_plain rfl fun K hK => wp_append_run _ _ _ _ rfl rfl rfl hrun7 (hK _ _ ?_))
  clear hrun7
  rw [rounds_succ]
  go_wp2_with fail
  go_ret
  exact ⟨A7, c7, rfl, H7.out.1, H7.out.2⟩
end Go.Proofs.YtfaooohenicfbaaGreatDoor
