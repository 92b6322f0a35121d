/- Layer 14 (tx): write, Put, Del. -/
import Derived.Test.YtkcppngopdiljaaTx
import Derived.Deep.RegionLaw
import Derived.BigRegion
set_option linter.unusedVariables false
set_option linter.unusedSimpArgs false
namespace Go.Proofs.Ytkcppngopdiljaa
open Go.RowKit

theorem tx_put_end {w W6 w7 : World} {F R : Nat → Prop} {xb mb : Nat} {base : Int} {ws : List Wr} {l : List (ByteArray × Value)} {A : Option Addr} {c : Nat} {x : Wr} (h1 : F xb) (h2 : F mb) (h3 : mb ≠ xb) (hx : w.heap[xb]? = some (.cells #[.int .i64 base, .map (some mb)] 75 (0, 0))) (h6 : TxHeld w (fun i => F i ∧ i ≠ xb ∧ i ≠ mb) l ws)
    (hr : Rd Ty.u8 w R A x.row) (hd : ∀ i, R i → ¬ F i) (hc : x.row.length ≤ c) (hf : Fr No w W6) (hM : MapIs w7 mb (lay x.key (.agg #[.string x.key, .slice A x.row.length c, .bool x.gone]) l)) (hF : Fr (fun i => i = mb) W6.drew w7) :
    TxAt w7 (fun i => F i ∨ R i) xb base (wput x ws) ∧ Fr F w w7 := by
  have hfw : Fr (fun i => i = mb) w w7 := ((hf.drew).mono fun _ _ f => f.elim).trans (hF.mono fun i _ e => .inl e)
  refine ⟨⟨.inl h1, mb, _, .inl h2, h3, hfw.blk hx (fun e => h3 e.symm), hM, ?_⟩, hfw.mono fun i _ e => by rw [e]; exact h2⟩
  have h7 : TxHeld w7 (fun i => (F i ∨ R i) ∧ i ≠ xb ∧ i ≠ mb) l ws := (h6.stab fun k hk hl => hfw.block k hl (fun e => hk.2.2 e)).mono fun i hi _ => ⟨.inl hi.1, hi.2⟩
  refine h7.put ⟨A, c, rfl, hc, (hr.fr hfw fun i hi e => hd i hi (by rw [e]; exact h2)).mono fun i hi _ => ⟨.inr hi, fun e => hd i hi (by rw [e]; exact h1), fun e => hd i hi (by rw [e]; exact h2)⟩⟩

set_option maxHeartbeats 1000000 in
set_option maxRecDepth 100000 in
theorem tx_write_some {w : World} {F R : Nat → Prop} {xb : Nat} {base : Int} {ws : List Wr} {A : Option Addr} {c : Nat} {x y : Wr} (h : TxAt w F xb base ws) (hr : Rd Ty.u8 w R A x.row) (hd : ∀ i, R i → ¬ F i) (hf : wfind x.key ws = some y) (hc : x.row.length ≤ c) :
    Calls Try.prog 30 #[.pointer (some ⟨xb, 0, none⟩), .agg #[.string x.key, .slice A x.row.length c, .bool x.gone]] w fun e w' => e = .returned (.int .i64 0) ∧ TxAt w' (fun i => F i ∨ R i) xb base (wput x ws) ∧ Fr F w w' := by
  obtain ⟨h1, mb, l, h2, h3, h4, h5, h6⟩ := h
  obtain ⟨v0, hlook, A0, c0, rfl, _, _⟩ := h6.some_ _ _ hf
  obtain ⟨W, hW⟩ : ∃ W, W = w.alloc (.cells #[.string x.key, .slice A x.row.length c, .bool x.gone] 43) := ⟨_, rfl⟩
  have hfW : Fr No w W := by rw [hW]; exact (Fr.refl No w).alloc _
  have hbW : W.heap[w.heap.size]? = some (.cells #[.string x.key, .slice A x.row.length c, .bool x.gone] 43 (0, 0)) := by rw [hW]; exact heap_alloc_new w _
  have hxW := hfW.blk h4 (fun f => f)
  have a1 := blk_cell hxW 1
  have b0 := blk_cell hbW 0
  have b1 := blk_cell hbW 1
  have b2 := blk_cell hbW 2
  simp at a1 b0 b1 b2
  have hmW : ∀ w', w'.heap[mb]? = W.heap[mb]? → MapIs w' mb l := fun w' hw => h5.stab (hw.trans (hfW.block _ h5.lt (fun f => f)))
  have hrun : ∀ w', w'.heap[mb]? = W.heap[mb]? → (Instr.lookup 73 (.map (some mb)) (.string x.key) true).run Try.prog w' = .ok (.tuple #[.agg #[.string y.key, .slice A0 y.row.length c0, .bool y.gone], .bool true]) w' := fun w' hw => by
    have := (run_map_look (P := Try.prog) (hmW w' hw) 73 _ _ Try.underlying73 Try.underlying9 _ (zero_wr w') x.key).2
    rw [hlook] at this
    exact this
  have hmlt : mb < W.heap.size := by have := h5.lt; have := hfW.size; omega
  have r2 : (Instr.lookup 73 (.map (some mb)) (.string x.key) true).run Try.prog W.drew = .ok (.tuple #[.agg #[.string y.key, .slice A0 y.row.length c0, .bool y.gone], .bool true]) W.drew := hrun _ rfl
  have r3 : ∀ o, (Instr.lookup 73 (.map (some mb)) (.string x.key) true).run Try.prog (W.alloc o).drew = .ok (.tuple #[.agg #[.string y.key, .slice A0 y.row.length c0, .bool y.gone], .bool true]) (W.alloc o).drew := fun o => hrun _ (Below.heap_alloc _ _ _ hmlt)
  have a1a := fun o => cell_alloc a1 o
  have b0a := fun o => cell_alloc b0 o
  have H := Lib.hid (And.intro h1 (And.intro h2 (And.intro h3 (And.intro hmW (And.intro h6 (And.intro hfW (And.intro h4 (And.intro hr (And.intro hd hc)))))))))
  clear h1 h2 h3 h4 h5 h6 hfW hbW hxW hmW hrun hlook hr hd hf hc
  go_enter Try.func30, Try.ntmps30
  go_wp2_with fail
  rw [← hW]
  clear hW
  go_region
  go_wp2_with fail
  obtain ⟨W6, hW6⟩ : ∃ W6, W6 = (W.alloc (.cells #[.string y.key, .slice A0 y.row.length c0, .bool y.gone] 43)).drew := ⟨_, rfl⟩
  have hf6 : Fr No W W6 := by rw [hW6]; exact ((Fr.refl No W).alloc _).drew
  have a1 := hf6.cell a1 (fun f => f)
  have b0 := hf6.cell b0 (fun f => f)
  have b1 := hf6.cell b1 (fun f => f)
  have b2 := hf6.cell b2 (fun f => f)
  obtain ⟨w7, hU, hM, hF7⟩ := run_map_lay (P := Try.prog) (w := W6.drew) (H.out.2.2.2.1 _ (by rw [hW6]; exact Below.heap_alloc _ _ _ hmlt)) 73 _ _ Try.underlying73 Try.underlying9 x.key (.agg #[.string x.key, .slice A x.row.length c, .bool x.gone])
  have HM := Lib.hid (And.intro hM (And.intro hF7 hf6))
  rw [← hW6]
  clear hW6 hM hF7 hf6 r2 r3 hmlt
  go_region
  go_wp2
  go_ret
  obtain ⟨h1, h2, h3, _, h6, hfW, hx, hr, hd, hc⟩ := H.out
  exact ⟨rfl, tx_put_end h1 h2 h3 hx h6 hr hd hc (hfW.trans (HM.out.2.2.mono fun _ _ f => f.elim)) HM.out.1 HM.out.2.1⟩

set_option maxHeartbeats 1000000 in
set_option maxRecDepth 100000 in
theorem tx_write_none {w : World} {F R : Nat → Prop} {xb : Nat} {base : Int} {ws : List Wr} {A : Option Addr} {c : Nat} {x : Wr} (h : TxAt w F xb base ws) (hr : Rd Ty.u8 w R A x.row) (hd : ∀ i, R i → ¬ F i) (hf : wfind x.key ws = none) (hn : ws.length ≤ 20) (hc : x.row.length ≤ c) :
    Calls Try.prog 30 #[.pointer (some ⟨xb, 0, none⟩), .agg #[.string x.key, .slice A x.row.length c, .bool x.gone]] w fun e w' => e = .returned (.int .i64 (wwrite ws x).2) ∧ TxAt w' (fun i => F i ∨ R i) xb base (wwrite ws x).1 ∧ Fr F w w' := by
  obtain ⟨h1, mb, l, h2, h3, h4, h5, h6⟩ := h
  have hlook := h6.none_ _ hf
  have Hf := Lib.hid hf
  have hml := h5.lt
  have hlen := h6.len h5.nodup
  obtain ⟨W, hW⟩ : ∃ W, W = w.alloc (.cells #[.string x.key, .slice A x.row.length c, .bool x.gone] 43) := ⟨_, rfl⟩
  have hfW : Fr No w W := by rw [hW]; exact (Fr.refl No w).alloc _
  have hbW : W.heap[w.heap.size]? = some (.cells #[.string x.key, .slice A x.row.length c, .bool x.gone] 43 (0, 0)) := by rw [hW]; exact heap_alloc_new w _
  have hxW := hfW.blk h4 (fun f => f)
  have a1 := blk_cell hxW 1
  have b0 := blk_cell hbW 0
  have b1 := blk_cell hbW 1
  have b2 := blk_cell hbW 2
  simp at a1 b0 b1 b2
  have hmW : ∀ w', w'.heap[mb]? = W.heap[mb]? → MapIs w' mb l := fun w' hw => h5.stab (hw.trans (hfW.block _ h5.lt (fun f => f)))
  have hrun : ∀ w', w'.heap[mb]? = W.heap[mb]? → (Instr.lookup 73 (.map (some mb)) (.string x.key) true).run Try.prog w' = .ok (.tuple #[.agg #[.string ⟨#[]⟩, .slice none 0 0, .bool false], .bool false]) w' := fun w' hw => by
    have := (run_map_look (P := Try.prog) (hmW w' hw) 73 _ _ Try.underlying73 Try.underlying9 _ (zero_wr w') x.key).2
    rw [hlook] at this
    exact this
  have hmlt : mb < W.heap.size := by have := h5.lt; have := hfW.size; omega
  have r2 : (Instr.lookup 73 (.map (some mb)) (.string x.key) true).run Try.prog W.drew = .ok (.tuple #[.agg #[.string ⟨#[]⟩, .slice none 0 0, .bool false], .bool false]) W.drew := hrun _ rfl
  have r3 : ∀ o, (Instr.lookup 73 (.map (some mb)) (.string x.key) true).run Try.prog (W.alloc o).drew = .ok (.tuple #[.agg #[.string ⟨#[]⟩, .slice none 0 0, .bool false], .bool false]) (W.alloc o).drew := fun o => hrun _ (Below.heap_alloc _ _ _ hmlt)
  obtain ⟨es, clk, hes, hsz⟩ := run_map_len h5
  have hm1 : ∀ o, (W.alloc o).drew.heap[mb]? = some (.map es clk) := fun o => (Below.heap_alloc _ _ _ hmlt).trans (hfW.blk hes (fun f => f))
  have hln : ∀ o, (Builtin.len_ #[73] 3 #[.map (some mb)]).run Try.prog (W.alloc o).drew = .ok (.int .i64 (ws.length : Int)) (W.alloc o).drew := fun o => by
    have := run_len_map (P := Try.prog) (w := (W.alloc o).drew) 73 3 mb es clk (by kernel_rfl) (hm1 o)
    rw [this, hsz.trans hlen]; rfl
  have a1a := fun o => cell_alloc a1 o
  have b0a := fun o => cell_alloc b0 o
  have H := Lib.hid (And.intro h1 (And.intro h2 (And.intro h3 (And.intro hmW (And.intro h6 (And.intro hfW (And.intro h4 (And.intro hr (And.intro hd hc)))))))))
  clear h1 h2 h3 h4 h5 h6 hfW hbW hxW hmW hrun hlook hr hd hf hc hsz hlen hes hm1
  go_enter Try.func30, Try.ntmps30
  go_wp2_with fail
  rw [← hW]
  clear hW
  go_region
  by_cases h20 : ws.length < 20
  · have h20' : (ws.length : Int) < 20 := by omega
    go_wp2_with fail
    obtain ⟨W6, hW6⟩ : ∃ W6, W6 = (W.alloc (.cells #[.string ⟨#[]⟩, .slice none 0 0, .bool false] 43)).drew := ⟨_, rfl⟩
    have hf6 : Fr No W W6 := by rw [hW6]; exact ((Fr.refl No W).alloc _).drew
    have a1 := hf6.cell a1 (fun f => f)
    have b0 := hf6.cell b0 (fun f => f)
    have b1 := hf6.cell b1 (fun f => f)
    have b2 := hf6.cell b2 (fun f => f)
    obtain ⟨w7, hU, hM, hF7⟩ := run_map_lay (P := Try.prog) (w := W6.drew) (H.out.2.2.2.1 _ (by rw [hW6]; exact Below.heap_alloc _ _ _ hmlt)) 73 _ _ Try.underlying73 Try.underlying9 x.key (.agg #[.string x.key, .slice A x.row.length c, .bool x.gone])
    have HM := Lib.hid (And.intro hM (And.intro hF7 hf6))
    rw [← hW6]
    clear hW6 hM hF7 hf6 r2 r3 hmlt
    go_region
    go_wp2
    go_ret
    obtain ⟨h1, h2, h3, _, h6, hfW, hx, hr, hd, hc⟩ := H.out
    have hwr : wwrite ws x = (wput x ws, 0) := by unfold wwrite; rw [Hf.out]; exact if_neg (by simp; omega)
    rw [hwr]
    exact ⟨rfl, tx_put_end h1 h2 h3 hx h6 hr hd hc (hfW.trans (HM.out.2.2.mono fun _ _ f => f.elim)) HM.out.1 HM.out.2.1⟩
  · have h20' : ¬ (ws.length : Int) < 20 := by omega
    go_wp2_with fail
    go_ret
    obtain ⟨h1, h2, h3, hmW, h6, hfW, hx, hr, hd, hc⟩ := H.out
    have hwr : wwrite ws x = (ws, 1) := by unfold wwrite; rw [Hf.out]; exact if_pos ⟨rfl, by omega⟩
    rw [hwr]
    have hff : Fr No w (W.alloc (.cells #[.string ⟨#[]⟩, .slice none 0 0, .bool false] 43)).drew := (hfW.alloc _).drew
    exact ⟨rfl, (TxAt.fr0 (w := w) ⟨h1, mb, l, h2, h3, hx, (hmW W rfl).stab (hfW.block _ hml (fun f => f)).symm, h6⟩ hff).mono fun i hi _ => .inl hi, hff.mono fun _ _ f => f.elim⟩
end Go.Proofs.Ytkcppngopdiljaa
