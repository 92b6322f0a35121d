/- Texts of this claim, one behind the other: Tx2, Tx3, LedAt, New2. -/
import Derived.Test.YtlmhphejgahfbaaGreatDoorMrowledgerdeletes18
import Derived.Deep.RegionLaw
import Derived.BigRegion
import Derived.Test.YtlmhphejgahfbaaGreatDoorMrowledgerdeletes16
import Derived.Test.YtlmhphejgahfbaaGreatDoorMrowledgerdeletes17
/- Layer 14 (tx): write, Put, Del. -/
set_option linter.unusedVariables false
set_option linter.unusedSimpArgs false
namespace Go.Proofs.YtlmhphejgahfbaaGreatDoor
open Go.RowKit

theorem tx_put_end {w W6 w7 : World} {F R : Nat → Prop} {xb mb : Nat} {base : Int} {ws : List Wr} {l : List (ByteArray × Value)} {A : Option Addr} {c : Nat} {x : Wr} (h1 : F xb) (h2 : F mb) (h3 : mb ≠ xb) (hx : w.heap[xb]? = some (.cells #[.int .i64 base, .map (some mb)] 173 (0, 0))) (h6 : TxHeld w (fun i => F i ∧ i ≠ xb ∧ i ≠ mb) l ws)
    (hr : Rd Ty.u8 w R A x.row) (hd : ∀ i, R i → ¬ F i) (hc : x.row.length ≤ c) (hf : Fr No w W6) (hM : MapIs w7 mb (lay x.key (.agg #[.string x.key, .slice A x.row.length c, .bool x.gone]) l)) (hF : Fr (fun i => i = mb) W6.drew w7) :
    TxAt w7 (fun i => F i ∨ R i) xb base (wput x ws) ∧ Fr F w w7 := by
  have hfw : Fr (fun i => i = mb) w w7 := ((hf.drew).mono fun _ _ f => f.elim).trans (hF.mono fun i _ e => .inl e)
  refine ⟨⟨.inl h1, mb, _, .inl h2, h3, hfw.blk hx (fun e => h3 e.symm), hM, ?_⟩, hfw.mono fun i _ e => by rw [e]; exact h2⟩
  have h7 : TxHeld w7 (fun i => (F i ∨ R i) ∧ i ≠ xb ∧ i ≠ mb) l ws := (h6.stab fun k hk hl => hfw.block k hl (fun e => hk.2.2 e)).mono fun i hi _ => ⟨.inl hi.1, hi.2⟩
  refine h7.put ⟨A, c, rfl, hc, (hr.fr hfw fun i hi e => hd i hi (by rw [e]; exact h2)).mono fun i hi _ => ⟨.inr hi, fun e => hd i hi (by rw [e]; exact h1), fun e => hd i hi (by rw [e]; exact h2)⟩⟩

set_option maxHeartbeats 1000000 in
set_option maxRecDepth 100000 in
theorem tx_write_some {w : World} {F R : Nat → Prop} {xb : Nat} {base : Int} {ws : List Wr} {A : Option Addr} {c : Nat} {x y : Wr} (h : TxAt w F xb base ws) (hr : Rd Ty.u8 w R A x.row) (hd : ∀ i, R i → ¬ F i) (hf : wfind x.key ws = some y) (hc : x.row.length ≤ c) :
    Calls Tryz.prog 99 #[.pointer (some ⟨xb, 0, none⟩), .agg #[.string x.key, .slice A x.row.length c, .bool x.gone]] w fun e w' => e = .returned (.int .i64 0) ∧ TxAt w' (fun i => F i ∨ R i) xb base (wput x ws) ∧ Fr F w w' := by
  obtain ⟨h1, mb, l, h2, h3, h4, h5, h6⟩ := h
  obtain ⟨v0, hlook, A0, c0, rfl, _, _⟩ := h6.some_ _ _ hf
  obtain ⟨W, hW⟩ : ∃ W, W = w.alloc (.cells #[.string x.key, .slice A x.row.length c, .bool x.gone] 117) := ⟨_, rfl⟩
  have hfW : Fr No w W := by rw [hW]; exact (Fr.refl No w).alloc _
  have hbW : W.heap[w.heap.size]? = some (.cells #[.string x.key, .slice A x.row.length c, .bool x.gone] 117 (0, 0)) := by rw [hW]; exact heap_alloc_new w _
  have hxW := hfW.blk h4 (fun f => f)
  have a1 := blk_cell hxW 1
  have b0 := blk_cell hbW 0
  have b1 := blk_cell hbW 1
  have b2 := blk_cell hbW 2
  simp at a1 b0 b1 b2
  have hmW : ∀ w', w'.heap[mb]? = W.heap[mb]? → MapIs w' mb l := fun w' hw => h5.stab (hw.trans (hfW.block _ h5.lt (fun f => f)))
  have hrun : ∀ w', w'.heap[mb]? = W.heap[mb]? → (Instr.lookup 171 (.map (some mb)) (.string x.key) true).run Tryz.prog w' = .ok (.tuple #[.agg #[.string y.key, .slice A0 y.row.length c0, .bool y.gone], .bool true]) w' := fun w' hw => by
    have := (run_map_look (P := Tryz.prog) (hmW w' hw) 171 _ _ Tryz.underlying171 Tryz.underlying9 _ (zero_wr w') x.key).2
    rw [hlook] at this
    exact this
  have hmlt : mb < W.heap.size := by have := h5.lt; have := hfW.size; omega
  have r2 : (Instr.lookup 171 (.map (some mb)) (.string x.key) true).run Tryz.prog W.drew = .ok (.tuple #[.agg #[.string y.key, .slice A0 y.row.length c0, .bool y.gone], .bool true]) W.drew := hrun _ rfl
  have r3 : ∀ o, (Instr.lookup 171 (.map (some mb)) (.string x.key) true).run Tryz.prog (W.alloc o).drew = .ok (.tuple #[.agg #[.string y.key, .slice A0 y.row.length c0, .bool y.gone], .bool true]) (W.alloc o).drew := fun o => hrun _ (Below.heap_alloc _ _ _ hmlt)
  have a1a := fun o => cell_alloc a1 o
  have b0a := fun o => cell_alloc b0 o
  have H := Lib.hid (And.intro h1 (And.intro h2 (And.intro h3 (And.intro hmW (And.intro h6 (And.intro hfW (And.intro h4 (And.intro hr (And.intro hd hc)))))))))
  clear h1 h2 h3 h4 h5 h6 hfW hbW hxW hmW hrun hlook hr hd hf hc
  go_enter Tryz.func99, Tryz.ntmps99
  go_wp2_with fail
  rw [← hW]
  clear hW
  go_region
  go_wp2_with fail
  obtain ⟨W6, hW6⟩ : ∃ W6, W6 = (W.alloc (.cells #[.string y.key, .slice A0 y.row.length c0, .bool y.gone] 117)).drew := ⟨_, rfl⟩
  have hf6 : Fr No W W6 := by rw [hW6]; exact ((Fr.refl No W).alloc _).drew
  have a1 := hf6.cell a1 (fun f => f)
  have b0 := hf6.cell b0 (fun f => f)
  have b1 := hf6.cell b1 (fun f => f)
  have b2 := hf6.cell b2 (fun f => f)
  obtain ⟨w7, hU, hM, hF7⟩ := run_map_lay (P := Tryz.prog) (w := W6.drew) (H.out.2.2.2.1 _ (by rw [hW6]; exact Below.heap_alloc _ _ _ hmlt)) 171 _ _ Tryz.underlying171 Tryz.underlying9 x.key (.agg #[.string x.key, .slice A x.row.length c, .bool x.gone])
  have HM := Lib.hid (And.intro hM (And.intro hF7 hf6))
  rw [← hW6]
  clear hW6 hM hF7 hf6 r2 r3 hmlt
  go_region
  go_wp2
  go_ret
  obtain ⟨h1, h2, h3, _, h6, hfW, hx, hr, hd, hc⟩ := H.out
  exact ⟨rfl, tx_put_end h1 h2 h3 hx h6 hr hd hc (hfW.trans (HM.out.2.2.mono fun _ _ f => f.elim)) HM.out.1 HM.out.2.1⟩

set_option maxHeartbeats 1000000 in
set_option maxRecDepth 100000 in
theorem tx_write_none {w : World} {F R : Nat → Prop} {xb : Nat} {base : Int} {ws : List Wr} {A : Option Addr} {c : Nat} {x : Wr} (h : TxAt w F xb base ws) (hr : Rd Ty.u8 w R A x.row) (hd : ∀ i, R i → ¬ F i) (hf : wfind x.key ws = none) (hn : ws.length ≤ 20) (hc : x.row.length ≤ c) :
    Calls Tryz.prog 99 #[.pointer (some ⟨xb, 0, none⟩), .agg #[.string x.key, .slice A x.row.length c, .bool x.gone]] w fun e w' => e = .returned (.int .i64 (wwrite ws x).2) ∧ TxAt w' (fun i => F i ∨ R i) xb base (wwrite ws x).1 ∧ Fr F w w' := by
  obtain ⟨h1, mb, l, h2, h3, h4, h5, h6⟩ := h
  have hlook := h6.none_ _ hf
  have Hf := Lib.hid hf
  have hml := h5.lt
  have hlen := h6.len h5.nodup
  obtain ⟨W, hW⟩ : ∃ W, W = w.alloc (.cells #[.string x.key, .slice A x.row.length c, .bool x.gone] 117) := ⟨_, rfl⟩
  have hfW : Fr No w W := by rw [hW]; exact (Fr.refl No w).alloc _
  have hbW : W.heap[w.heap.size]? = some (.cells #[.string x.key, .slice A x.row.length c, .bool x.gone] 117 (0, 0)) := by rw [hW]; exact heap_alloc_new w _
  have hxW := hfW.blk h4 (fun f => f)
  have a1 := blk_cell hxW 1
  have b0 := blk_cell hbW 0
  have b1 := blk_cell hbW 1
  have b2 := blk_cell hbW 2
  simp at a1 b0 b1 b2
  have hmW : ∀ w', w'.heap[mb]? = W.heap[mb]? → MapIs w' mb l := fun w' hw => h5.stab (hw.trans (hfW.block _ h5.lt (fun f => f)))
  have hrun : ∀ w', w'.heap[mb]? = W.heap[mb]? → (Instr.lookup 171 (.map (some mb)) (.string x.key) true).run Tryz.prog w' = .ok (.tuple #[.agg #[.string ⟨#[]⟩, .slice none 0 0, .bool false], .bool false]) w' := fun w' hw => by
    have := (run_map_look (P := Tryz.prog) (hmW w' hw) 171 _ _ Tryz.underlying171 Tryz.underlying9 _ (zero_wr w') x.key).2
    rw [hlook] at this
    exact this
  have hmlt : mb < W.heap.size := by have := h5.lt; have := hfW.size; omega
  have r2 : (Instr.lookup 171 (.map (some mb)) (.string x.key) true).run Tryz.prog W.drew = .ok (.tuple #[.agg #[.string ⟨#[]⟩, .slice none 0 0, .bool false], .bool false]) W.drew := hrun _ rfl
  have r3 : ∀ o, (Instr.lookup 171 (.map (some mb)) (.string x.key) true).run Tryz.prog (W.alloc o).drew = .ok (.tuple #[.agg #[.string ⟨#[]⟩, .slice none 0 0, .bool false], .bool false]) (W.alloc o).drew := fun o => hrun _ (Below.heap_alloc _ _ _ hmlt)
  obtain ⟨es, clk, hes, hsz⟩ := run_map_len h5
  have hm1 : ∀ o, (W.alloc o).drew.heap[mb]? = some (.map es clk) := fun o => (Below.heap_alloc _ _ _ hmlt).trans (hfW.blk hes (fun f => f))
  have hln : ∀ o, (Builtin.len_ #[171] 3 #[.map (some mb)]).run Tryz.prog (W.alloc o).drew = .ok (.int .i64 (ws.length : Int)) (W.alloc o).drew := fun o => by
    have := run_len_map (P := Tryz.prog) (w := (W.alloc o).drew) 171 3 mb es clk (by kernel_rfl) (hm1 o)
    rw [this, hsz.trans hlen]; rfl
  have a1a := fun o => cell_alloc a1 o
  have b0a := fun o => cell_alloc b0 o
  have H := Lib.hid (And.intro h1 (And.intro h2 (And.intro h3 (And.intro hmW (And.intro h6 (And.intro hfW (And.intro h4 (And.intro hr (And.intro hd hc)))))))))
  clear h1 h2 h3 h4 h5 h6 hfW hbW hxW hmW hrun hlook hr hd hf hc hsz hlen hes hm1
  go_enter Tryz.func99, Tryz.ntmps99
  go_wp2_with fail
  rw [← hW]
  clear hW
  go_region
  by_cases h20 : ws.length < 20
  · have h20' : (ws.length : Int) < 20 := by omega
    go_wp2_with fail
    obtain ⟨W6, hW6⟩ : ∃ W6, W6 = (W.alloc (.cells #[.string ⟨#[]⟩, .slice none 0 0, .bool false] 117)).drew := ⟨_, rfl⟩
    have hf6 : Fr No W W6 := by rw [hW6]; exact ((Fr.refl No W).alloc _).drew
    have a1 := hf6.cell a1 (fun f => f)
    have b0 := hf6.cell b0 (fun f => f)
    have b1 := hf6.cell b1 (fun f => f)
    have b2 := hf6.cell b2 (fun f => f)
    obtain ⟨w7, hU, hM, hF7⟩ := run_map_lay (P := Tryz.prog) (w := W6.drew) (H.out.2.2.2.1 _ (by rw [hW6]; exact Below.heap_alloc _ _ _ hmlt)) 171 _ _ Tryz.underlying171 Tryz.underlying9 x.key (.agg #[.string x.key, .slice A x.row.length c, .bool x.gone])
    have HM := Lib.hid (And.intro hM (And.intro hF7 hf6))
    rw [← hW6]
    clear hW6 hM hF7 hf6 r2 r3 hmlt
    go_region
    go_wp2
    go_ret
    obtain ⟨h1, h2, h3, _, h6, hfW, hx, hr, hd, hc⟩ := H.out
    have hwr : wwrite ws x = (wput x ws, 0) := by unfold wwrite; rw [Hf.out]; exact if_neg (by simp; omega)
    rw [hwr]
    exact ⟨rfl, tx_put_end h1 h2 h3 hx h6 hr hd hc (hfW.trans (HM.out.2.2.mono fun _ _ f => f.elim)) HM.out.1 HM.out.2.1⟩
  · have h20' : ¬ (ws.length : Int) < 20 := by omega
    go_wp2_with fail
    go_ret
    obtain ⟨h1, h2, h3, hmW, h6, hfW, hx, hr, hd, hc⟩ := H.out
    have hwr : wwrite ws x = (ws, 1) := by unfold wwrite; rw [Hf.out]; exact if_pos ⟨rfl, by omega⟩
    rw [hwr]
    have hff : Fr No w (W.alloc (.cells #[.string ⟨#[]⟩, .slice none 0 0, .bool false] 117)).drew := (hfW.alloc _).drew
    exact ⟨rfl, (TxAt.fr0 (w := w) ⟨h1, mb, l, h2, h3, hx, (hmW W rfl).stab (hfW.block _ hml (fun f => f)).symm, h6⟩ hff).mono fun i hi _ => .inl hi, hff.mono fun _ _ f => f.elim⟩
end Go.Proofs.YtlmhphejgahfbaaGreatDoor
/- Layer 14 (tx): Put, Del, own. -/
set_option linter.unusedVariables false
set_option linter.unusedSimpArgs false
namespace Go.Proofs.YtlmhphejgahfbaaGreatDoor
open Go.RowKit

theorem wwrite_len {ws : List Wr} {x : Wr} (hr : Rising (ws.map Wr.key)) (h : ws.length ≤ 20) : (wwrite ws x).1.length ≤ 20 := by
  unfold wwrite
  split
  · exact h
  · rename_i hn
    show (wput x ws).length ≤ 20
    rw [wput_length hr]
    split
    · rename_i h1
      have : ¬ 20 ≤ ws.length := fun h2 => hn ⟨h1, h2⟩
      omega
    · exact h
theorem tx_write {w : World} {F R : Nat → Prop} {xb : Nat} {base : Int} {ws : List Wr} {A : Option Addr} {c : Nat} {x : Wr} (h : TxAt w F xb base ws) (hr : Rd Ty.u8 w R A x.row) (hd : ∀ i, R i → ¬ F i) (hn : ws.length ≤ 20) (hc : x.row.length ≤ c) :
    Calls Tryz.prog 99 #[.pointer (some ⟨xb, 0, none⟩), .agg #[.string x.key, .slice A x.row.length c, .bool x.gone]] w fun e w' => e = .returned (.int .i64 (wwrite ws x).2) ∧ TxAt w' (fun i => F i ∨ R i) xb base (wwrite ws x).1 ∧ Fr F w w' := by
  cases hf : wfind x.key ws with
  | none => exact tx_write_none h hr hd hf hn hc
  | some y =>
    have hwr : wwrite ws x = (wput x ws, 0) := by unfold wwrite; rw [hf]; exact if_neg (by simp)
    rw [hwr]
    exact tx_write_some h hr hd hf hc

theorem tx_put {w : World} {F R : Nat → Prop} {xb : Nat} {base : Int} {ws : List Wr} {A : Option Addr} {n c : Nat} {row : Bs} (key : ByteArray) (h : TxAt w F xb base ws) (hr : Rd Ty.u8 w R A row) (hn : ws.length ≤ 20) (hl : n = row.length) (hl2 : row.length ≤ 140737488355328) :
    Calls Tryz.prog 48 #[.pointer (some ⟨xb, 0, none⟩), .string key, .slice A n c] w fun e w' => e = .returned (.int .i64 (wwrite ws ⟨key, row, false⟩).2) ∧ TxAt w' (fun i => F i ∨ w.heap.size ≤ i) xb base (wwrite ws ⟨key, row, false⟩).1 ∧ Fr F w w' := by
  have HC := Lib.hid (clone_ok (c := c) hr hl hl2)
  have H := Lib.hid (h.mono fun i hi hl => (⟨hi, hl⟩ : F i ∧ i < w.heap.size))
  clear h hr hl hl2
  go_enter Tryz.func48, Tryz.ntmps48
  go_wp2_with fail
  refine HC.out.mono ?_
  rintro e1 w1 ⟨A1, c1, rfl, ho, hf1⟩
  have hwr := tx_write (x := ⟨key, row, false⟩) (c := c1) (H.out.fr0 hf1) ho.rd.2.2 (fun i hi h => by have := h.2; have hi' : w.heap.size ≤ i := hi; omega) hn ho.rd.2.1
  have HW := Lib.hid (And.intro hwr hf1)
  clear hwr ho hf1
  go_wp2_with fail
  refine HW.out.1.mono ?_
  rintro e2 w2 ⟨rfl, ht, hf2⟩
  have HT := Lib.hid (And.intro (ht.mono fun i hi _ => hi.imp (fun h => h.1) id) (HW.out.2.mono (G := F) (fun _ _ f => f.elim) |>.trans (hf2.mono fun i _ hi => .inl hi.1)))
  clear ht hf2
  go_wp2_with fail
  go_ret
  exact ⟨rfl, HT.out⟩
theorem tx_del {w : World} {F : Nat → Prop} {xb : Nat} {base : Int} {ws : List Wr} (key : ByteArray) (h : TxAt w F xb base ws) (hn : ws.length ≤ 20) :
    Calls Tryz.prog 60 #[.pointer (some ⟨xb, 0, none⟩), .string key] w fun e w' => e = .returned (.int .i64 (wwrite ws ⟨key, [], true⟩).2) ∧ TxAt w' F xb base (wwrite ws ⟨key, [], true⟩).1 ∧ Fr F w w' := by
  have HW := Lib.hid (tx_write (x := ⟨key, [], true⟩) (A := none) (c := 0) (R := No) h Rd.nil (fun i f => f.elim) hn (Nat.le_refl _))
  clear h
  go_enter Tryz.func60, Tryz.ntmps60
  go_wp2_with fail
  refine HW.out.mono ?_
  rintro e2 w2 ⟨rfl, ht, hf2⟩
  have HT := Lib.hid (And.intro (ht.mono fun i hi _ => hi.elim id (fun f => f.elim)) hf2)
  clear ht hf2
  go_wp2_with fail
  go_ret
  exact ⟨rfl, HT.out⟩

/-- What own answers. -/
def OwnIs (w' : World) (F : Nat → Prop) (e : Ending) (o : Option Wr) : Prop :=
  ∃ k A n c g, e = .returned (.tuple #[.agg #[.string k, .slice A n c, .bool g], .bool o.isSome]) ∧ ∀ y, o = some y → k = y.key ∧ n = y.row.length ∧ g = y.gone ∧ n ≤ c ∧ Rd Ty.u8 w' F A y.row
set_option maxHeartbeats 1000000 in
set_option maxRecDepth 100000 in
theorem tx_own {w : World} {F : Nat → Prop} {xb : Nat} {base : Int} {ws : List Wr} (key : ByteArray) (h : TxAt w F xb base ws) :
    Calls Tryz.prog 116 #[.pointer (some ⟨xb, 0, none⟩), .string key] w fun e w' => OwnIs w' F e (wfind key ws) ∧ Fr No w w' := by
  obtain ⟨h1, mb, l, h2, h3, h4, h5, h6⟩ := h
  obtain ⟨W, hW⟩ : ∃ W, W = w.alloc (.cells #[.string ⟨#[]⟩, .slice none 0 0, .bool false] 117) := ⟨_, rfl⟩
  have hfW : Fr No w W := by rw [hW]; exact (Fr.refl No w).alloc _
  have hbW : W.heap[w.heap.size]? = some (.cells #[.string ⟨#[]⟩, .slice none 0 0, .bool false] 117 (0, 0)) := by rw [hW]; exact heap_alloc_new w _
  have a1 := blk_cell (hfW.blk h4 (fun f => f)) 1
  simp at a1
  have hrun := (run_map_look (P := Tryz.prog) (w := W) (h5.stab (hfW.block _ h5.lt (fun f => f))) 171 _ _ Tryz.underlying171 Tryz.underlying9 _ (zero_wr W) key).2
  have hk : ∃ k A n c g, (look key l).getD (.agg #[.string ⟨#[]⟩, .slice none 0 0, .bool false]) = .agg #[.string k, .slice A n c, .bool g] ∧ (look key l).isSome = (wfind key ws).isSome ∧ ∀ y, wfind key ws = some y → k = y.key ∧ n = y.row.length ∧ g = y.gone ∧ n ≤ c ∧ Rd Ty.u8 w F A y.row := by
    cases hf : wfind key ws with
    | none => rw [h6.none_ _ hf]; exact ⟨_, _, _, _, _, rfl, rfl, fun y h => by cases h⟩
    | some y =>
      obtain ⟨v, hl, A, c, rfl, hc, hr⟩ := h6.some_ _ _ hf
      rw [hl]
      exact ⟨_, _, _, _, _, rfl, rfl, fun y' h => by injection h with h; subst h; exact ⟨rfl, rfl, rfl, hc, hr.mono fun i hi _ => hi.1⟩⟩
  obtain ⟨k, A, n, c, g, hv, hs, hy⟩ := hk
  rw [hv, hs] at hrun
  have hb4 := fun (o : Obj) => blk_set (blk_set (blk_set (((Fr.refl No W).alloc o).blk hbW (fun f => f)) 0 (.string k)) 1 (.slice A n c)) 2 (.bool g)
  have z0 := blk_frozen hbW 0
  have z1 := blk_frozen hbW 1
  have z2 := blk_frozen hbW 2
  have b0 := blk_cell hbW 0
  have b1 := blk_cell hbW 1
  have b2 := blk_cell hbW 2
  simp at b0 b1 b2
  have hlW : w.heap.size < W.heap.size := blk_lt hbW
  have c1 := blk_cell h4 1
  simp at c1
  have hxl : xb < w.heap.size := blk_lt h4
  have H := Lib.hid (And.intro hfW (And.intro hy hb4))
  clear h1 h2 h3 h4 h5 h6 hfW hbW hv hs hy hb4
  go_enter Tryz.func116, Tryz.ntmps116
  subst hW
  go_wp2_with fail
  have hb := blk_two1 w (.cells #[.string k, .slice A n c, .bool g] 117) (.cells #[.string k, .slice A n c, .bool g] 117)
  have d0 := blk_cell hb 0
  have d1 := blk_cell hb 1
  have d2 := blk_cell hb 2
  simp at d0 d1 d2
  have hff : Fr No w ((w.alloc (.cells #[.string k, .slice A n c, .bool g] 117)).alloc (.cells #[.string k, .slice A n c, .bool g] 117)) := ((Fr.refl No w).alloc _).alloc _
  refine bodyPost_ret (v := .tuple #[.agg #[.string k, .slice A n c, .bool g], .bool (wfind key ws).isSome]) (by simp [results, Tryz.results116, go_sem, d0, d1, d2]) rfl ⟨⟨k, A, n, c, g, rfl, fun y hy' => ?_⟩, hff⟩
  obtain ⟨e1, e2, e3, e4, e5⟩ := H.out.2.1 y hy'
  exact ⟨e1, e2, e3, e4, e5.fr0 hff⟩
theorem tx_own_nil (key : ByteArray) (w : World) : Calls Tryz.prog 116 #[.pointer none, .string key] w fun e w' => OwnIs w' No e none ∧ Fr No w w' := by
  go_enter Tryz.func116, Tryz.ntmps116
  go_wp2
  have hb := heap_alloc_new w (.cells #[.string ⟨#[]⟩, .slice none 0 0, .bool false] 117)
  have d0 := blk_cell hb 0
  have d1 := blk_cell hb 1
  have d2 := blk_cell hb 2
  simp at d0 d1 d2
  exact bodyPost_ret (v := .tuple #[.agg #[.string ⟨#[]⟩, .slice none 0 0, .bool false], .bool false]) (by simp [results, Tryz.results116, go_sem, d0, d1, d2]) rfl ⟨⟨_, _, _, _, _, rfl, fun y h => by cases h⟩, (Fr.refl No w).alloc _⟩
end Go.Proofs.YtlmhphejgahfbaaGreatDoor
/- Layer 15 (ledger): how a ledger lies in memory: each block has a colour. -/
set_option linter.unusedVariables false
set_option linter.unusedSimpArgs false
namespace Go.Proofs.YtlmhphejgahfbaaGreatDoor
open Go.RowKit

/-- Colours: 0 others', 1 the ledger's block, 2 its map's, 3 the store, 4 the states' array, 5 the trees, 6 the tables, 9 what is left, from 10 on the transactions. -/
def txCol (id : Int) : Nat := 10 + id.toNat
/-- What the ledger's methods may write. -/
def MutC (n : Nat) : Prop := (1 ≤ n ∧ n ≤ 4) ∨ 10 ≤ n
/-- All that is the ledger's. -/
def LedC (n : Nat) : Prop := (1 ≤ n ∧ n ≤ 6) ∨ 10 ≤ n
theorem MutC.led {n : Nat} (h : MutC n) : LedC n := by unfold MutC at h; unfold LedC; omega
theorem txCol_inj {a b : Int} (ha : 0 ≤ a) (hb : 0 ≤ b) (h : txCol a = txCol b) : a = b := by unfold txCol at h; omega
theorem txCol_ge (a : Int) : 10 ≤ txCol a := by unfold txCol; omega
/-- New blocks in a colour. -/
def ext (col : Nat → Nat) (n k : Nat) : Nat → Nat := fun i => if i < n then col i else k
theorem ext_old (col : Nat → Nat) {n k i : Nat} (h : i < n) : ext col n k i = col i := if_pos h
theorem ext_new (col : Nat → Nat) {n k i : Nat} (h : n ≤ i) : ext col n k i = k := if_neg (by omega)

theorem NodeAt.mono {F G : Nat → Prop} {w : World} {v : Value} {t : Tr} (h : NodeAt F w v t) (k : ∀ i, F i → i < w.heap.size → G i) : NodeAt G w v t := by
  induction t generalizing v with
  | nil => exact h
  | leaf key r =>
    obtain ⟨b, A, c, e, hb, hh, hr⟩ := h
    exact ⟨b, A, c, e, k b hb (blk_lt hh), hh, hr.mono k⟩
  | node l r ihl ihr =>
    obtain ⟨b, vl, vr, e, hb, hh, h1, h2⟩ := h
    exact ⟨b, vl, vr, e, k b hb (blk_lt hh), hh, ihl h1, ihr h2⟩
theorem NodeAt.cellv {F : Nat → Prop} {w : World} {v : Value} {t : Tr} (h : NodeAt F w v t) : v.oneCell' = true := by
  cases t with
  | nil => obtain rfl : v = _ := h; rfl
  | leaf key r => obtain ⟨b, A, c, rfl, _⟩ := h; rfl
  | node l r => obtain ⟨b, vl, vr, rfl, _⟩ := h; rfl
/-- A state in cells; its tree is of colour 5. -/
def tStt (col : Nat → Nat) : Ty Stt where
  sz := 4
  K := fun w F x cs => ∃ v, cs = [.string x.dig, .string x.last, .string x.sum, v] ∧ NodeAt (fun i => col i = 5 ∧ F i) w v x.t
  len := by rintro _ _ _ _ ⟨v, rfl, _⟩; rfl
  one := by
    rintro _ _ x _ ⟨v, rfl, hv⟩ u hu
    simp only [List.mem_cons, List.not_mem_nil, or_false] at hu
    rcases hu with rfl | rfl | rfl | rfl
    · rfl
    · rfl
    · rfl
    · exact hv.cellv
  stab := by rintro _ _ _ _ _ ⟨v, rfl, h⟩ k; exact ⟨v, rfl, h.stab fun i hi hl => k i hi.2 hl⟩
  mono := by rintro _ _ _ _ _ ⟨v, rfl, h⟩ k; exact ⟨v, rfl, h.mono fun i hi hl => ⟨hi.1, k i hi.2 hl⟩⟩
theorem stt_at {w : World} {col : Nat → Nat} {F : Nat → Prop} {A : Option Addr} {l : List Stt} (h : Rd (tStt col) w F A l) {i : Nat} (hi : i < l.length) :
    ∃ ad v, A = some ad ∧ w.cell? (ad.add (i * 4)) = some (.string l[i].dig) ∧ w.cell? ⟨(ad.add (i * 4)).block, (ad.add (i * 4)).off + 1, none⟩ = some (.string l[i].last) ∧ w.cell? ⟨(ad.add (i * 4)).block, (ad.add (i * 4)).off + 2, none⟩ = some (.string l[i].sum) ∧ w.cell? ⟨(ad.add (i * 4)).block, (ad.add (i * 4)).off + 3, none⟩ = some v ∧ NodeAt (fun i => col i = 5 ∧ F i) w v l[i].t := by
  obtain ⟨ad, cs, e, hk, h0, h1⟩ := h.get' hi (show 0 < 4 by decide)
  obtain ⟨v, rfl, hv⟩ := hk
  exact ⟨ad, v, e, h0 _ rfl, h1 1 _ (by decide) rfl, h1 2 _ (by decide) rfl, h1 3 _ (by decide) rfl, hv⟩

theorem row_turn {α : Type} {t t' : Ty α} {w w' : World} {F G : Nat → Prop} {xs : List α} {cs : List Value} (h : Row t w F xs cs) (k : ∀ x c, t.K w F x c → t'.K w' G x c) : Row t' w' G xs cs := by
  induction xs generalizing cs with
  | nil => exact h
  | cons x xs ih => obtain ⟨c, d, rfl, h1, h2⟩ := h; exact ⟨c, d, rfl, k _ _ h1, ih h2⟩
/-- A map's pointers lead to the open transactions. -/
structure TxsAt (w : World) (col : Nat → Nat) (l : List (Int × Value)) (L : Led) : Prop where
  none_ : ∀ id, L.find id = none → lookI id l = none
  some_ : ∀ id x, L.find id = some x → ∃ xb, lookI id l = some (.pointer (some ⟨xb, 0, none⟩)) ∧ TxAt w (fun i => col i = txCol id) xb x.base x.ws
/-- A ledger's parts. -/
structure LedP (w : World) (col : Nat → Nat) (lb : Nat) (L : Led) (A : Option Addr) (c sb mb : Nat) (vst : Value) (l : List (Int × Value)) : Prop where
  blk : LedB w lb (.slice A L.tabs.length c) sb mb L.next vst
  c1 : col lb = 1
  c2 : col mb = 2
  cap : L.tabs.length ≤ c
  tabs : Rd tTab w (fun i => col i = 6) A L.tabs
  sto : StoreAt w (fun i => col i = 3) sb L.s
  map : MapII w mb l
  txs : TxsAt w col l L
  sts : Ow (tStt col) 81 w (fun i => col i = 4 ∨ col i = 5) vst L.sts
  own : ∀ k, vst.ownBlock = some k → col k = 4
  kat : KAt w
  kc : col 0 = 0
def LedAt (w : World) (col : Nat → Nat) (lb : Nat) (L : Led) : Prop := ∃ A c sb mb vst l, LedP w col lb L A c sb mb vst l
section
variable {w w' : World} {col col' : Nat → Nat} {lb : Nat} {L : Led} {l : List (Int × Value)} {A : Option Addr} {c sb mb : Nat} {vst : Value}
theorem TxsAt.fr {S : Nat → Prop} (h : TxsAt w col l L) (f : Fr S w w') (hd : ∀ i, 10 ≤ col i → ¬ S i) : TxsAt w' col l L :=
  ⟨h.none_, fun id x hx => by
    obtain ⟨xb, h1, h2⟩ := h.some_ id x hx
    exact ⟨xb, h1, h2.fr f fun i hi => hd i (by have := txCol_ge id; omega)⟩⟩
theorem TxsAt.recol (h : TxsAt w col l L) (k : ∀ i, i < w.heap.size → col' i = col i) : TxsAt w col' l L :=
  ⟨h.none_, fun id x hx => by
    obtain ⟨xb, h1, h2⟩ := h.some_ id x hx
    exact ⟨xb, h1, h2.mono fun i hi hl => by rw [k i hl]; exact hi⟩⟩
theorem LedP.fr {S : Nat → Prop} (h : LedP w col lb L A c sb mb vst l) (f : Fr S w w') (hd : ∀ i, LedC (col i) → ¬ S i) (hk : ∀ i, col i = 0 → ¬ S i) : LedP w' col lb L A c sb mb vst l where
  blk := f.blk h.blk (hd _ (by rw [h.c1]; unfold LedC; omega))
  c1 := h.c1
  c2 := h.c2
  cap := h.cap
  tabs := h.tabs.fr f fun i hi => hd i (by unfold LedC; omega)
  sto := h.sto.fr f fun i hi => hd i (by unfold LedC; omega)
  map := h.map.stab (f.block _ h.map.lt (hd _ (by rw [h.c2]; unfold LedC; omega)))
  txs := h.txs.fr f fun i hi => hd i (by unfold LedC; omega)
  sts := h.sts.fr f fun i hi => hd i (by unfold LedC; omega)
  own := h.own
  kat := h.kat.fr f (hk _ h.kc)
  kc := h.kc
theorem LedP.fr0 (h : LedP w col lb L A c sb mb vst l) (f : Fr No w w') : LedP w' col lb L A c sb mb vst l := h.fr f (fun _ _ f => f) (fun _ _ f => f)
theorem tStt_recol {F G : Nat → Prop} {x : Stt} {cs : List Value} (h : (tStt col).K w F x cs) (k : ∀ i, i < w.heap.size → col' i = col i) (g : ∀ i, i < w.heap.size → F i → G i) : (tStt col').K w G x cs := by
  obtain ⟨v, e, hn⟩ := h
  exact ⟨v, e, hn.mono fun i hi hl => ⟨by rw [k i hl]; exact hi.1, g i hl hi.2⟩⟩
theorem kat_lt (h : KAt w) : 0 < w.heap.size := World.block_lt_of_cell? w _ (h 0 (by decide))
theorem LedP.recol (h : LedP w col lb L A c sb mb vst l) (k : ∀ i, i < w.heap.size → col' i = col i) : LedP w col' lb L A c sb mb vst l where
  blk := h.blk
  c1 := by rw [k _ (blk_lt h.blk)]; exact h.c1
  c2 := by rw [k _ h.map.lt]; exact h.c2
  cap := h.cap
  tabs := h.tabs.mono fun i hi hl => by rw [k i hl]; exact hi
  sto := h.sto.mono fun i hi hl => by rw [k i hl]; exact hi
  map := h.map
  txs := h.txs.recol k
  sts := by
    obtain ⟨cs, g1, g2, g3⟩ := h.sts
    exact ⟨cs, g1, row_turn g2 fun x c hx => tStt_recol hx k fun i hl hi => ⟨by show col' i = 4 ∨ col' i = 5; rw [k i hl]; exact hi.1, hi.2⟩, fun i hi => by show col' i = 4 ∨ col' i = 5; rw [k i (g1.lt i hi).2]; exact g3 i hi⟩
  own := fun i hi => by
    obtain ⟨cs, g1, g2, g3⟩ := h.sts
    rw [k i (g1.lt i hi).2]; exact h.own i hi
  kat := h.kat
  kc := by rw [k _ (kat_lt h.kat)]; exact h.kc
theorem LedAt.fr {S : Nat → Prop} (h : LedAt w col lb L) (f : Fr S w w') (hd : ∀ i, LedC (col i) → ¬ S i) (hk : ∀ i, col i = 0 → ¬ S i) : LedAt w' col lb L := by
  obtain ⟨A, c, sb, mb, vst, l, h⟩ := h
  exact ⟨A, c, sb, mb, vst, l, h.fr f hd hk⟩
theorem LedAt.fr0 (h : LedAt w col lb L) (f : Fr No w w') : LedAt w' col lb L := h.fr f (fun _ _ f => f) (fun _ _ f => f)
theorem LedAt.recol (h : LedAt w col lb L) (k : ∀ i, i < w.heap.size → col' i = col i) : LedAt w col' lb L := by
  obtain ⟨A, c, sb, mb, vst, l, h⟩ := h
  exact ⟨A, c, sb, mb, vst, l, h.recol k⟩
/-- One transaction has turned. -/
theorem LedP.setTx {x : LTx} {id : Int} {xb : Nat} {ws : List Wr} (h : LedP w col lb L A c sb mb vst l) (hp : ∀ y ∈ L.txs, 0 ≤ y.id) (hx : L.find id = some x) (hb : lookI id l = some (.pointer (some ⟨xb, 0, none⟩)))
    (hT : TxAt w' (fun i => col i = txCol id ∨ w.heap.size ≤ i) xb x.base ws) (f : Fr (fun i => col i = txCol id) w w') : LedP w' (ext col w.heap.size (txCol id)) lb (L.setTx id ws) A c sb mb vst l := by
  have hge := txCol_ge id
  have hlt : ∀ i, i < w.heap.size → ext col w.heap.size (txCol id) i = col i := fun i hi => ext_old col hi
  have hcol := (h.recol (col' := ext col w.heap.size (txCol id)) hlt)
  have hS : ∀ i, i < w.heap.size → ext col w.heap.size (txCol id) i < 10 → ¬ col i = txCol id := fun i hi hc he => by rw [hlt i hi, he] at hc; omega
  refine { blk := f.blk hcol.blk (fun e => by have := h.c1; omega), c1 := hcol.c1, c2 := hcol.c2, cap := hcol.cap, tabs := hcol.tabs.stab fun i hi hl => f.block i hl (hS i hl (by omega)), sto := hcol.sto.stab f.size fun i hi hl => f.block i hl (hS i hl (by omega)), map := h.map.stab (f.block _ h.map.lt (fun e => by have := h.c2; omega)), txs := ⟨fun id' h' => ?_, fun id' y hy => ?_⟩, sts := hcol.sts.stab fun i hi hl => f.block i hl (hS i hl (by omega)), own := hcol.own, kat := h.kat.fr f (fun e => by have := h.kc; omega), kc := hcol.kc }
  · rw [find_setTx] at h'
    split at h'
    · rename_i e; rw [hx] at h'; cases h'
    · exact h.txs.none_ id' h'
  · rw [find_setTx] at hy
    split at hy
    · rename_i e
      subst e
      rw [hx] at hy
      simp only [Option.map_some, Option.some.injEq] at hy
      subst hy
      refine ⟨xb, hb, hT.mono fun i hi hl => ?_⟩
      rcases Nat.lt_or_ge i w.heap.size with hlt' | hge'
      · show ext _ _ _ i = _
        rw [ext_old col hlt']
        rcases hi with hi | hi
        · exact hi
        · omega
      · exact ext_new col hge'
    · rename_i e
      obtain ⟨xb', h1, h2⟩ := hcol.txs.some_ id' y hy
      refine ⟨xb', h1, h2.stab fun i hi hl => f.block i hl fun he => e ?_⟩
      rw [hlt i hl, he] at hi
      obtain ⟨q1, q2⟩ := find_id hy
      obtain ⟨q3, q4⟩ := find_id hx
      exact (txCol_inj (by rw [← q3]; exact hp _ q4) (by rw [← q1]; exact hp _ q2) hi).symm
end
end Go.Proofs.YtlmhphejgahfbaaGreatDoor
/- ledger.New, once more: its two maps are two. -/
set_option linter.unusedVariables false
set_option linter.unusedSimpArgs false
namespace Go.Proofs.YtlmhphejgahfbaaGreatDoor
open Go.RowKit

/-- A new ledger over tables at A. -/
def NewAt2 (w : World) (B lb : Nat) (A : Option Addr) (n c : Nat) : Prop := ∃ sb vb mb gb, (B ≤ lb ∧ B ≤ sb ∧ B ≤ vb ∧ B ≤ mb ∧ B ≤ gb ∧ vb ≠ mb) ∧ w.heap[lb]? = some (.cells #[.slice A n c, .pointer (some ⟨sb, 0, none⟩), .map (some mb), .int .i64 0, .slice (some ⟨gb, 0, none⟩) 1 1] 87) ∧ w.heap[sb]? = some (.cells #[.map (some vb), .int .i64 0] 159) ∧ w.heap[vb]? = some (.map #[] 0) ∧ w.heap[mb]? = some (.map #[] 0) ∧ w.heap[gb]? = some (.cells #[.string firstD, .string dE, .string (sha []), .pointer none] 81)
set_option maxHeartbeats 1000000 in
set_option maxRecDepth 100000 in
theorem ledger_new2 {w : World} {F : Nat → Prop} {A : Option Addr} {c : Nat} {l : List Tab} (h : Rd tTab w F A l) (g : TabsOk l) (hk : KAt w) :
    Calls Tryz.prog 8 #[.slice A l.length c] w fun e w' => ∃ lb, e = .returned (.tuple #[.pointer (some ⟨lb, 0, none⟩), .int .i64 0]) ∧ NewAt2 w' w.heap.size lb A l.length c ∧ Fr No w w' := by
  have hr := tright_ok (c := c) h g
  have hmm := @run_makeMap Tryz.prog
  have H := Lib.hid (And.intro hr (And.intro (fun (w1 : World) (f : Fr No w w1) => first_ok (hk.fr0 f)) (And.intro (fun (w1 : World) (f : Fr No w w1) => mark_empty (hk.fr0 f)) (fun (w1 : World) (f : Fr No w w1) => sum_ok (G := No) (A := none) (c := 0) (p := []) Rd.nil (hk.fr0 f) (by simp)))))
  have HS := Lib.hid fun (w : World) => store_new0 (w := w)
  clear hr g hk h
  go_enter Tryz.func8, Tryz.ntmps8
  go_wp2_with fail
  refine H.out.1.mono ?_
  rintro e w1 ⟨rfl, hf1⟩
  have H1 := Lib.hid hf1
  clear hf1
  go_wp2_with fail
  refine (H.out.2.1 _ H1.out).mono ?_
  rintro e w2 ⟨rfl, hf2⟩
  have H2 := Lib.hid (H1.out.trans (hf2.mono fun _ _ f => f.elim))
  clear hf2
  go_wp2_with fail
  refine (H.out.2.2.1 _ H2.out).mono ?_
  rintro e w3 ⟨rfl, hf3⟩
  have H3 := Lib.hid (H2.out.trans (hf3.mono fun _ _ f => f.elim))
  clear hf3
  go_wp2_with fail
  refine (H.out.2.2.2 _ H3.out).mono ?_
  rintro e w4 ⟨rfl, hf4⟩
  have H4 := Lib.hid (H3.out.trans (hf4.mono fun _ _ f => f.elim))
  clear hf4
  go_wp2_with fail
  go_region_law
    (go_simp; go_at_call 40; refine (HS.out _).mono ?_; rintro e5 w5 ⟨rfl, rfl⟩)
  all_goals
    go_wp2_with fail
    go_ret2
    refine ⟨_, rfl, ?_, H4.out.trans (Fr.mono (F := No) (by repeat (first | exact Fr.refl No _ | apply Fr.drew | apply Fr.drewN | apply Fr.alloc)) (fun _ _ f => f.elim))⟩
    · unfold NewAt2
      have hsz4 := H4.out.size
      obtain ⟨s5, s4, s3, s2, s1⟩ := six_at w4 _ _ _ _ _ _
      refine ⟨_, _, _, _, ?_, s5, (by first | exact s4 | exact s3 | exact s2 | exact s1), (by first | exact s4 | exact s3 | exact s2 | exact s1), (by first | exact s4 | exact s3 | exact s2 | exact s1), (by first | exact s4 | exact s3 | exact s2 | exact s1)⟩
      exact ⟨by omega, by omega, by omega, by omega, by omega, by omega⟩
end Go.Proofs.YtlmhphejgahfbaaGreatDoor
