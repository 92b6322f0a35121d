/- Texts of this claim, one behind the other: Tx, Tx2, Tx3, KeysW, Store3o, Tx4, Store7, Law1, Law20, Ref06, Ref12, Ref12b, Ref13, Ref13b, Ref13d, Ref1b, Ref06b, Ref14, Law22. -/
import Derived.Test.YtkcppngopdiljaaMrowtxsees1
import Derived.Deep.RegionLaw
import Derived.BigRegion
import Derived.Test.YtkcppngopdiljaaShelf
import Derived.Sort.KeysCollected
import Derived.Laws.OwnMore
import Derived.Lib.SlBytesConst
import Derived.IntWalk
import Derived.StillTailTactics
import Derived.Laws.BytesArg
import Derived.Deep.RegionHeld3
import Derived.BigQuiet
import Derived.Deep.DeepCutAuto
/- Layer 14 (tx): how a transaction lies in memory; New, Base, write. -/
set_option linter.unusedVariables false
set_option linter.unusedSimpArgs false
namespace Go.Proofs.Ytkcppngopdiljaa
open Go.RowKit

/-- A write as a value. -/
def WrIs (w : World) (F : Nat → Prop) (v : Value) (x : Wr) : Prop := ∃ A c, v = .agg #[.string x.key, .slice A x.row.length c, .bool x.gone] ∧ x.row.length ≤ c ∧ Rd Ty.u8 w F A x.row
theorem WrIs.stab {w w' : World} {F : Nat → Prop} {v : Value} {x : Wr} (h : WrIs w F v x) (k : ∀ k, F k → k < w.heap.size → w'.heap[k]? = w.heap[k]?) : WrIs w' F v x := by
  obtain ⟨A, c, e, h1, h2⟩ := h
  exact ⟨A, c, e, h1, h2.stab k⟩
theorem WrIs.mono {w : World} {F G : Nat → Prop} {v : Value} {x : Wr} (h : WrIs w F v x) (k : ∀ k, F k → k < w.heap.size → G k) : WrIs w G v x := by
  obtain ⟨A, c, e, h1, h2⟩ := h
  exact ⟨A, c, e, h1, h2.mono k⟩
/-- A map's values are the writes. -/
structure TxHeld (w : World) (F : Nat → Prop) (l : List (ByteArray × Value)) (ws : List Wr) : Prop where
  rising : Rising (ws.map Wr.key)
  none_ : ∀ k, wfind k ws = none → look k l = none
  some_ : ∀ k x, wfind k ws = some x → ∃ v, look k l = some v ∧ WrIs w F v x
section
variable {w w' : World} {F G : Nat → Prop} {l : List (ByteArray × Value)} {ws : List Wr}
theorem TxHeld.stab (h : TxHeld w F l ws) (k : ∀ k, F k → k < w.heap.size → w'.heap[k]? = w.heap[k]?) : TxHeld w' F l ws :=
  ⟨h.rising, h.none_, fun key x hx => by obtain ⟨v, h1, h2⟩ := h.some_ key x hx; exact ⟨v, h1, h2.stab k⟩⟩
theorem TxHeld.mono (h : TxHeld w F l ws) (k : ∀ k, F k → k < w.heap.size → G k) : TxHeld w G l ws :=
  ⟨h.rising, h.none_, fun key x hx => by obtain ⟨v, h1, h2⟩ := h.some_ key x hx; exact ⟨v, h1, h2.mono k⟩⟩
theorem TxHeld.look_iff (h : TxHeld w F l ws) (k : ByteArray) : look k l = none ↔ k ∉ ws.map Wr.key := by
  rw [← wfind_none]
  constructor
  · intro hl
    cases hx : wfind k ws with
    | none => rfl
    | some x => obtain ⟨v, h1, _⟩ := h.some_ k x hx; rw [hl] at h1; cases h1
  · exact h.none_ k
theorem TxHeld.len (h : TxHeld w F l ws) (hn : (l.map Prod.fst).Nodup) : l.length = ws.length := by
  have := (keys_perm h.rising hn h.look_iff).length_eq
  simpa using this
theorem TxHeld.put (h : TxHeld w F l ws) {v : Value} {x : Wr} (hx : WrIs w F v x) : TxHeld w F (lay x.key v l) (wput x ws) := by
  refine ⟨wput_rising h.rising, fun k hk => ?_, fun k y hy => ?_⟩
  · rw [wfind_wput h.rising] at hk
    rw [look_lay]
    split at hk
    · cases hk
    · rename_i e; rw [if_neg e]; exact h.none_ k hk
  · rw [wfind_wput h.rising] at hy
    rw [look_lay]
    split at hy
    · rename_i e; injection hy with hy; subst hy; rw [if_pos e]; exact ⟨v, rfl, hx⟩
    · rename_i e; rw [if_neg e]; exact h.some_ k y hy
end

/-- A transaction behind a pointer; F bounds all its blocks. -/
def TxAt (w : World) (F : Nat → Prop) (xb : Nat) (base : Int) (ws : List Wr) : Prop :=
  F xb ∧ ∃ mb l, F mb ∧ mb ≠ xb ∧ w.heap[xb]? = some (.cells #[.int .i64 base, .map (some mb)] 75 (0, 0)) ∧ MapIs w mb l ∧ TxHeld w (fun i => F i ∧ i ≠ xb ∧ i ≠ mb) l ws
section
variable {w w' : World} {F F' : Nat → Prop} {xb : Nat} {base : Int} {ws : List Wr}
theorem TxAt.stab (h : TxAt w F xb base ws) (k : ∀ k, F k → k < w.heap.size → w'.heap[k]? = w.heap[k]?) : TxAt w' F xb base ws := by
  obtain ⟨h1, mb, l, h2, h3, h4, h5, h6⟩ := h
  exact ⟨h1, mb, l, h2, h3, (k _ h1 (blk_lt h4)).trans h4, h5.stab (k _ h2 h5.lt), h6.stab fun i hi hl => k i hi.1 hl⟩
theorem TxAt.fr {S : Nat → Prop} (h : TxAt w F xb base ws) (f : Fr S w w') (hd : ∀ k, F k → ¬ S k) : TxAt w' F xb base ws := h.stab fun k hk hl => f.block k hl (hd k hk)
theorem TxAt.fr0 (h : TxAt w F xb base ws) (f : Fr No w w') : TxAt w' F xb base ws := h.stab fun k hk hl => f.block k hl (fun f => f)
theorem TxAt.mono (h : TxAt w F xb base ws) (k : ∀ k, F k → k < w.heap.size → F' k) : TxAt w F' xb base ws := by
  obtain ⟨h1, mb, l, h2, h3, h4, h5, h6⟩ := h
  exact ⟨k _ h1 (blk_lt h4), mb, l, k _ h2 h5.lt, h3, h4, h5, h6.mono fun i hi hl => ⟨k i hi.1 hl, hi.2⟩⟩
theorem TxAt.rising (h : TxAt w F xb base ws) : Rising (ws.map Wr.key) := by
  obtain ⟨h1, mb, l, h2, h3, h4, h5, h6⟩ := h
  exact h6.rising
end

theorem zero_wr (w : World) : (zeroValue 43).run Try.prog w = .ok (.agg #[.string ⟨#[]⟩, .slice none 0 0, .bool false]) w := by kernel_rfl

theorem tx_new (base : Int) (w : World) : Calls Try.prog 11 #[.int .i64 base] w fun e w' => ∃ b, e = .returned (.pointer (some ⟨b, 0, none⟩)) ∧ TxAt w' (fun k => w.heap.size ≤ k) b base [] ∧ Fr No w w' := by
  have hmm := @run_makeMap Try.prog
  go_enter Try.func11, Try.ntmps11
  go_wp2
  go_ret
  refine ⟨w.heap.size + 1, rfl, ⟨by omega, w.heap.size, [], Nat.le_refl _, by omega, ?_, ?_, ⟨List.Pairwise.nil, fun _ _ => rfl, fun k x h => by cases h⟩⟩, ((Fr.refl No w).alloc _).alloc _⟩
  · exact blk_two2 w _ _
  · exact (MapIs.new w).stab (Below.heap_alloc _ _ _ (by simp))
theorem tx_base_nil (w : World) : Calls Try.prog 16 #[.pointer none] w fun e w' => e = .returned (.int .i64 0) ∧ w' = w := by
  go_enter Try.func16, Try.ntmps16
  go_wp2
  go_ret
  exact ⟨rfl, rfl⟩
theorem tx_base {w : World} {F : Nat → Prop} {xb : Nat} {base : Int} {ws : List Wr} (h : TxAt w F xb base ws) : Calls Try.prog 16 #[.pointer (some ⟨xb, 0, none⟩)] w fun e w' => e = .returned (.int .i64 base) ∧ w' = w := by
  obtain ⟨h1, mb, l, h2, h3, h4, h5, h6⟩ := h
  have c0 := blk_cell h4 0
  clear h1 h2 h3 h4 h5 h6
  simp at c0
  go_enter Try.func16, Try.ntmps16
  go_wp2
  go_ret
  exact ⟨rfl, rfl⟩
theorem tx_write_nil (v : Value) (k : ByteArray) (A : Option Addr) (n c : Nat) (g : Bool) (w : World) (hv : v = .agg #[.string k, .slice A n c, .bool g]) : Calls Try.prog 30 #[.pointer none, v] w fun e w' => e = .returned (.int .i64 5) ∧ Fr No w w' := by
  subst hv
  go_enter Try.func30, Try.ntmps30
  go_wp2
  go_ret
  exact ⟨rfl, (Fr.refl No w).alloc _⟩
end Go.Proofs.Ytkcppngopdiljaa
/- Layer 14 (tx): write, Put, Del. -/
set_option linter.unusedVariables false
set_option linter.unusedSimpArgs false
namespace Go.Proofs.Ytkcppngopdiljaa
open Go.RowKit

theorem tx_put_end {w W6 w7 : World} {F R : Nat → Prop} {xb mb : Nat} {base : Int} {ws : List Wr} {l : List (ByteArray × Value)} {A : Option Addr} {c : Nat} {x : Wr} (h1 : F xb) (h2 : F mb) (h3 : mb ≠ xb) (hx : w.heap[xb]? = some (.cells #[.int .i64 base, .map (some mb)] 75 (0, 0))) (h6 : TxHeld w (fun i => F i ∧ i ≠ xb ∧ i ≠ mb) l ws)
    (hr : Rd Ty.u8 w R A x.row) (hd : ∀ i, R i → ¬ F i) (hc : x.row.length ≤ c) (hf : Fr No w W6) (hM : MapIs w7 mb (lay x.key (.agg #[.string x.key, .slice A x.row.length c, .bool x.gone]) l)) (hF : Fr (fun i => i = mb) W6.drew w7) :
    TxAt w7 (fun i => F i ∨ R i) xb base (wput x ws) ∧ Fr F w w7 := by
  have hfw : Fr (fun i => i = mb) w w7 := ((hf.drew).mono fun _ _ f => f.elim).trans (hF.mono fun i _ e => .inl e)
  refine ⟨⟨.inl h1, mb, _, .inl h2, h3, hfw.blk hx (fun e => h3 e.symm), hM, ?_⟩, hfw.mono fun i _ e => by rw [e]; exact h2⟩
  have h7 : TxHeld w7 (fun i => (F i ∨ R i) ∧ i ≠ xb ∧ i ≠ mb) l ws := (h6.stab fun k hk hl => hfw.block k hl (fun e => hk.2.2 e)).mono fun i hi _ => ⟨.inl hi.1, hi.2⟩
  refine h7.put ⟨A, c, rfl, hc, (hr.fr hfw fun i hi e => hd i hi (by rw [e]; exact h2)).mono fun i hi _ => ⟨.inr hi, fun e => hd i hi (by rw [e]; exact h1), fun e => hd i hi (by rw [e]; exact h2)⟩⟩

set_option maxHeartbeats 1000000 in
set_option maxRecDepth 100000 in
theorem tx_write_some {w : World} {F R : Nat → Prop} {xb : Nat} {base : Int} {ws : List Wr} {A : Option Addr} {c : Nat} {x y : Wr} (h : TxAt w F xb base ws) (hr : Rd Ty.u8 w R A x.row) (hd : ∀ i, R i → ¬ F i) (hf : wfind x.key ws = some y) (hc : x.row.length ≤ c) :
    Calls Try.prog 30 #[.pointer (some ⟨xb, 0, none⟩), .agg #[.string x.key, .slice A x.row.length c, .bool x.gone]] w fun e w' => e = .returned (.int .i64 0) ∧ TxAt w' (fun i => F i ∨ R i) xb base (wput x ws) ∧ Fr F w w' := by
  obtain ⟨h1, mb, l, h2, h3, h4, h5, h6⟩ := h
  obtain ⟨v0, hlook, A0, c0, rfl, _, _⟩ := h6.some_ _ _ hf
  obtain ⟨W, hW⟩ : ∃ W, W = w.alloc (.cells #[.string x.key, .slice A x.row.length c, .bool x.gone] 43) := ⟨_, rfl⟩
  have hfW : Fr No w W := by rw [hW]; exact (Fr.refl No w).alloc _
  have hbW : W.heap[w.heap.size]? = some (.cells #[.string x.key, .slice A x.row.length c, .bool x.gone] 43 (0, 0)) := by rw [hW]; exact heap_alloc_new w _
  have hxW := hfW.blk h4 (fun f => f)
  have a1 := blk_cell hxW 1
  have b0 := blk_cell hbW 0
  have b1 := blk_cell hbW 1
  have b2 := blk_cell hbW 2
  simp at a1 b0 b1 b2
  have hmW : ∀ w', w'.heap[mb]? = W.heap[mb]? → MapIs w' mb l := fun w' hw => h5.stab (hw.trans (hfW.block _ h5.lt (fun f => f)))
  have hrun : ∀ w', w'.heap[mb]? = W.heap[mb]? → (Instr.lookup 73 (.map (some mb)) (.string x.key) true).run Try.prog w' = .ok (.tuple #[.agg #[.string y.key, .slice A0 y.row.length c0, .bool y.gone], .bool true]) w' := fun w' hw => by
    have := (run_map_look (P := Try.prog) (hmW w' hw) 73 _ _ Try.underlying73 Try.underlying9 _ (zero_wr w') x.key).2
    rw [hlook] at this
    exact this
  have hmlt : mb < W.heap.size := by have := h5.lt; have := hfW.size; omega
  have r2 : (Instr.lookup 73 (.map (some mb)) (.string x.key) true).run Try.prog W.drew = .ok (.tuple #[.agg #[.string y.key, .slice A0 y.row.length c0, .bool y.gone], .bool true]) W.drew := hrun _ rfl
  have r3 : ∀ o, (Instr.lookup 73 (.map (some mb)) (.string x.key) true).run Try.prog (W.alloc o).drew = .ok (.tuple #[.agg #[.string y.key, .slice A0 y.row.length c0, .bool y.gone], .bool true]) (W.alloc o).drew := fun o => hrun _ (Below.heap_alloc _ _ _ hmlt)
  have a1a := fun o => cell_alloc a1 o
  have b0a := fun o => cell_alloc b0 o
  have H := Lib.hid (And.intro h1 (And.intro h2 (And.intro h3 (And.intro hmW (And.intro h6 (And.intro hfW (And.intro h4 (And.intro hr (And.intro hd hc)))))))))
  clear h1 h2 h3 h4 h5 h6 hfW hbW hxW hmW hrun hlook hr hd hf hc
  go_enter Try.func30, Try.ntmps30
  go_wp2_with fail
  rw [← hW]
  clear hW
  go_region
  go_wp2_with fail
  obtain ⟨W6, hW6⟩ : ∃ W6, W6 = (W.alloc (.cells #[.string y.key, .slice A0 y.row.length c0, .bool y.gone] 43)).drew := ⟨_, rfl⟩
  have hf6 : Fr No W W6 := by rw [hW6]; exact ((Fr.refl No W).alloc _).drew
  have a1 := hf6.cell a1 (fun f => f)
  have b0 := hf6.cell b0 (fun f => f)
  have b1 := hf6.cell b1 (fun f => f)
  have b2 := hf6.cell b2 (fun f => f)
  obtain ⟨w7, hU, hM, hF7⟩ := run_map_lay (P := Try.prog) (w := W6.drew) (H.out.2.2.2.1 _ (by rw [hW6]; exact Below.heap_alloc _ _ _ hmlt)) 73 _ _ Try.underlying73 Try.underlying9 x.key (.agg #[.string x.key, .slice A x.row.length c, .bool x.gone])
  have HM := Lib.hid (And.intro hM (And.intro hF7 hf6))
  rw [← hW6]
  clear hW6 hM hF7 hf6 r2 r3 hmlt
  go_region
  go_wp2
  go_ret
  obtain ⟨h1, h2, h3, _, h6, hfW, hx, hr, hd, hc⟩ := H.out
  exact ⟨rfl, tx_put_end h1 h2 h3 hx h6 hr hd hc (hfW.trans (HM.out.2.2.mono fun _ _ f => f.elim)) HM.out.1 HM.out.2.1⟩

set_option maxHeartbeats 1000000 in
set_option maxRecDepth 100000 in
theorem tx_write_none {w : World} {F R : Nat → Prop} {xb : Nat} {base : Int} {ws : List Wr} {A : Option Addr} {c : Nat} {x : Wr} (h : TxAt w F xb base ws) (hr : Rd Ty.u8 w R A x.row) (hd : ∀ i, R i → ¬ F i) (hf : wfind x.key ws = none) (hn : ws.length ≤ 20) (hc : x.row.length ≤ c) :
    Calls Try.prog 30 #[.pointer (some ⟨xb, 0, none⟩), .agg #[.string x.key, .slice A x.row.length c, .bool x.gone]] w fun e w' => e = .returned (.int .i64 (wwrite ws x).2) ∧ TxAt w' (fun i => F i ∨ R i) xb base (wwrite ws x).1 ∧ Fr F w w' := by
  obtain ⟨h1, mb, l, h2, h3, h4, h5, h6⟩ := h
  have hlook := h6.none_ _ hf
  have Hf := Lib.hid hf
  have hml := h5.lt
  have hlen := h6.len h5.nodup
  obtain ⟨W, hW⟩ : ∃ W, W = w.alloc (.cells #[.string x.key, .slice A x.row.length c, .bool x.gone] 43) := ⟨_, rfl⟩
  have hfW : Fr No w W := by rw [hW]; exact (Fr.refl No w).alloc _
  have hbW : W.heap[w.heap.size]? = some (.cells #[.string x.key, .slice A x.row.length c, .bool x.gone] 43 (0, 0)) := by rw [hW]; exact heap_alloc_new w _
  have hxW := hfW.blk h4 (fun f => f)
  have a1 := blk_cell hxW 1
  have b0 := blk_cell hbW 0
  have b1 := blk_cell hbW 1
  have b2 := blk_cell hbW 2
  simp at a1 b0 b1 b2
  have hmW : ∀ w', w'.heap[mb]? = W.heap[mb]? → MapIs w' mb l := fun w' hw => h5.stab (hw.trans (hfW.block _ h5.lt (fun f => f)))
  have hrun : ∀ w', w'.heap[mb]? = W.heap[mb]? → (Instr.lookup 73 (.map (some mb)) (.string x.key) true).run Try.prog w' = .ok (.tuple #[.agg #[.string ⟨#[]⟩, .slice none 0 0, .bool false], .bool false]) w' := fun w' hw => by
    have := (run_map_look (P := Try.prog) (hmW w' hw) 73 _ _ Try.underlying73 Try.underlying9 _ (zero_wr w') x.key).2
    rw [hlook] at this
    exact this
  have hmlt : mb < W.heap.size := by have := h5.lt; have := hfW.size; omega
  have r2 : (Instr.lookup 73 (.map (some mb)) (.string x.key) true).run Try.prog W.drew = .ok (.tuple #[.agg #[.string ⟨#[]⟩, .slice none 0 0, .bool false], .bool false]) W.drew := hrun _ rfl
  have r3 : ∀ o, (Instr.lookup 73 (.map (some mb)) (.string x.key) true).run Try.prog (W.alloc o).drew = .ok (.tuple #[.agg #[.string ⟨#[]⟩, .slice none 0 0, .bool false], .bool false]) (W.alloc o).drew := fun o => hrun _ (Below.heap_alloc _ _ _ hmlt)
  obtain ⟨es, clk, hes, hsz⟩ := run_map_len h5
  have hm1 : ∀ o, (W.alloc o).drew.heap[mb]? = some (.map es clk) := fun o => (Below.heap_alloc _ _ _ hmlt).trans (hfW.blk hes (fun f => f))
  have hln : ∀ o, (Builtin.len_ #[73] 3 #[.map (some mb)]).run Try.prog (W.alloc o).drew = .ok (.int .i64 (ws.length : Int)) (W.alloc o).drew := fun o => by
    have := run_len_map (P := Try.prog) (w := (W.alloc o).drew) 73 3 mb es clk (by kernel_rfl) (hm1 o)
    rw [this, hsz.trans hlen]; rfl
  have a1a := fun o => cell_alloc a1 o
  have b0a := fun o => cell_alloc b0 o
  have H := Lib.hid (And.intro h1 (And.intro h2 (And.intro h3 (And.intro hmW (And.intro h6 (And.intro hfW (And.intro h4 (And.intro hr (And.intro hd hc)))))))))
  clear h1 h2 h3 h4 h5 h6 hfW hbW hxW hmW hrun hlook hr hd hf hc hsz hlen hes hm1
  go_enter Try.func30, Try.ntmps30
  go_wp2_with fail
  rw [← hW]
  clear hW
  go_region
  by_cases h20 : ws.length < 20
  · have h20' : (ws.length : Int) < 20 := by omega
    go_wp2_with fail
    obtain ⟨W6, hW6⟩ : ∃ W6, W6 = (W.alloc (.cells #[.string ⟨#[]⟩, .slice none 0 0, .bool false] 43)).drew := ⟨_, rfl⟩
    have hf6 : Fr No W W6 := by rw [hW6]; exact ((Fr.refl No W).alloc _).drew
    have a1 := hf6.cell a1 (fun f => f)
    have b0 := hf6.cell b0 (fun f => f)
    have b1 := hf6.cell b1 (fun f => f)
    have b2 := hf6.cell b2 (fun f => f)
    obtain ⟨w7, hU, hM, hF7⟩ := run_map_lay (P := Try.prog) (w := W6.drew) (H.out.2.2.2.1 _ (by rw [hW6]; exact Below.heap_alloc _ _ _ hmlt)) 73 _ _ Try.underlying73 Try.underlying9 x.key (.agg #[.string x.key, .slice A x.row.length c, .bool x.gone])
    have HM := Lib.hid (And.intro hM (And.intro hF7 hf6))
    rw [← hW6]
    clear hW6 hM hF7 hf6 r2 r3 hmlt
    go_region
    go_wp2
    go_ret
    obtain ⟨h1, h2, h3, _, h6, hfW, hx, hr, hd, hc⟩ := H.out
    have hwr : wwrite ws x = (wput x ws, 0) := by unfold wwrite; rw [Hf.out]; exact if_neg (by simp; omega)
    rw [hwr]
    exact ⟨rfl, tx_put_end h1 h2 h3 hx h6 hr hd hc (hfW.trans (HM.out.2.2.mono fun _ _ f => f.elim)) HM.out.1 HM.out.2.1⟩
  · have h20' : ¬ (ws.length : Int) < 20 := by omega
    go_wp2_with fail
    go_ret
    obtain ⟨h1, h2, h3, hmW, h6, hfW, hx, hr, hd, hc⟩ := H.out
    have hwr : wwrite ws x = (ws, 1) := by unfold wwrite; rw [Hf.out]; exact if_pos ⟨rfl, by omega⟩
    rw [hwr]
    have hff : Fr No w (W.alloc (.cells #[.string ⟨#[]⟩, .slice none 0 0, .bool false] 43)).drew := (hfW.alloc _).drew
    exact ⟨rfl, (TxAt.fr0 (w := w) ⟨h1, mb, l, h2, h3, hx, (hmW W rfl).stab (hfW.block _ hml (fun f => f)).symm, h6⟩ hff).mono fun i hi _ => .inl hi, hff.mono fun _ _ f => f.elim⟩
end Go.Proofs.Ytkcppngopdiljaa
/- Layer 14 (tx): Put, Del, own. -/
set_option linter.unusedVariables false
set_option linter.unusedSimpArgs false
namespace Go.Proofs.Ytkcppngopdiljaa
open Go.RowKit

theorem wwrite_len {ws : List Wr} {x : Wr} (hr : Rising (ws.map Wr.key)) (h : ws.length ≤ 20) : (wwrite ws x).1.length ≤ 20 := by
  unfold wwrite
  split
  · exact h
  · rename_i hn
    show (wput x ws).length ≤ 20
    rw [wput_length hr]
    split
    · rename_i h1
      have : ¬ 20 ≤ ws.length := fun h2 => hn ⟨h1, h2⟩
      omega
    · exact h
theorem tx_write {w : World} {F R : Nat → Prop} {xb : Nat} {base : Int} {ws : List Wr} {A : Option Addr} {c : Nat} {x : Wr} (h : TxAt w F xb base ws) (hr : Rd Ty.u8 w R A x.row) (hd : ∀ i, R i → ¬ F i) (hn : ws.length ≤ 20) (hc : x.row.length ≤ c) :
    Calls Try.prog 30 #[.pointer (some ⟨xb, 0, none⟩), .agg #[.string x.key, .slice A x.row.length c, .bool x.gone]] w fun e w' => e = .returned (.int .i64 (wwrite ws x).2) ∧ TxAt w' (fun i => F i ∨ R i) xb base (wwrite ws x).1 ∧ Fr F w w' := by
  cases hf : wfind x.key ws with
  | none => exact tx_write_none h hr hd hf hn hc
  | some y =>
    have hwr : wwrite ws x = (wput x ws, 0) := by unfold wwrite; rw [hf]; exact if_neg (by simp)
    rw [hwr]
    exact tx_write_some h hr hd hf hc

theorem tx_put {w : World} {F R : Nat → Prop} {xb : Nat} {base : Int} {ws : List Wr} {A : Option Addr} {n c : Nat} {row : Bs} (key : ByteArray) (h : TxAt w F xb base ws) (hr : Rd Ty.u8 w R A row) (hn : ws.length ≤ 20) (hl : n = row.length) (hl2 : row.length ≤ 140737488355328) :
    Calls Try.prog 12 #[.pointer (some ⟨xb, 0, none⟩), .string key, .slice A n c] w fun e w' => e = .returned (.int .i64 (wwrite ws ⟨key, row, false⟩).2) ∧ TxAt w' (fun i => F i ∨ w.heap.size ≤ i) xb base (wwrite ws ⟨key, row, false⟩).1 ∧ Fr F w w' := by
  have HC := Lib.hid (clone_ok (c := c) hr hl hl2)
  have H := Lib.hid (h.mono fun i hi hl => (⟨hi, hl⟩ : F i ∧ i < w.heap.size))
  clear h hr hl hl2
  go_enter Try.func12, Try.ntmps12
  go_wp2_with fail
  refine HC.out.mono ?_
  rintro e1 w1 ⟨A1, c1, rfl, ho, hf1⟩
  have hwr := tx_write (x := ⟨key, row, false⟩) (c := c1) (H.out.fr0 hf1) ho.rd.2.2 (fun i hi h => by have := h.2; have hi' : w.heap.size ≤ i := hi; omega) hn ho.rd.2.1
  have HW := Lib.hid (And.intro hwr hf1)
  clear hwr ho hf1
  go_wp2_with fail
  refine HW.out.1.mono ?_
  rintro e2 w2 ⟨rfl, ht, hf2⟩
  have HT := Lib.hid (And.intro (ht.mono fun i hi _ => hi.imp (fun h => h.1) id) (HW.out.2.mono (G := F) (fun _ _ f => f.elim) |>.trans (hf2.mono fun i _ hi => .inl hi.1)))
  clear ht hf2
  go_wp2_with fail
  go_ret
  exact ⟨rfl, HT.out⟩
theorem tx_del {w : World} {F : Nat → Prop} {xb : Nat} {base : Int} {ws : List Wr} (key : ByteArray) (h : TxAt w F xb base ws) (hn : ws.length ≤ 20) :
    Calls Try.prog 13 #[.pointer (some ⟨xb, 0, none⟩), .string key] w fun e w' => e = .returned (.int .i64 (wwrite ws ⟨key, [], true⟩).2) ∧ TxAt w' F xb base (wwrite ws ⟨key, [], true⟩).1 ∧ Fr F w w' := by
  have HW := Lib.hid (tx_write (x := ⟨key, [], true⟩) (A := none) (c := 0) (R := No) h Rd.nil (fun i f => f.elim) hn (Nat.le_refl _))
  clear h
  go_enter Try.func13, Try.ntmps13
  go_wp2_with fail
  refine HW.out.mono ?_
  rintro e2 w2 ⟨rfl, ht, hf2⟩
  have HT := Lib.hid (And.intro (ht.mono fun i hi _ => hi.elim id (fun f => f.elim)) hf2)
  clear ht hf2
  go_wp2_with fail
  go_ret
  exact ⟨rfl, HT.out⟩

/-- What own answers. -/
def OwnIs (w' : World) (F : Nat → Prop) (e : Ending) (o : Option Wr) : Prop :=
  ∃ k A n c g, e = .returned (.tuple #[.agg #[.string k, .slice A n c, .bool g], .bool o.isSome]) ∧ ∀ y, o = some y → k = y.key ∧ n = y.row.length ∧ g = y.gone ∧ n ≤ c ∧ Rd Ty.u8 w' F A y.row
set_option maxHeartbeats 1000000 in
set_option maxRecDepth 100000 in
theorem tx_own {w : World} {F : Nat → Prop} {xb : Nat} {base : Int} {ws : List Wr} (key : ByteArray) (h : TxAt w F xb base ws) :
    Calls Try.prog 35 #[.pointer (some ⟨xb, 0, none⟩), .string key] w fun e w' => OwnIs w' F e (wfind key ws) ∧ Fr No w w' := by
  obtain ⟨h1, mb, l, h2, h3, h4, h5, h6⟩ := h
  obtain ⟨W, hW⟩ : ∃ W, W = w.alloc (.cells #[.string ⟨#[]⟩, .slice none 0 0, .bool false] 43) := ⟨_, rfl⟩
  have hfW : Fr No w W := by rw [hW]; exact (Fr.refl No w).alloc _
  have hbW : W.heap[w.heap.size]? = some (.cells #[.string ⟨#[]⟩, .slice none 0 0, .bool false] 43 (0, 0)) := by rw [hW]; exact heap_alloc_new w _
  have a1 := blk_cell (hfW.blk h4 (fun f => f)) 1
  simp at a1
  have hrun := (run_map_look (P := Try.prog) (w := W) (h5.stab (hfW.block _ h5.lt (fun f => f))) 73 _ _ Try.underlying73 Try.underlying9 _ (zero_wr W) key).2
  have hk : ∃ k A n c g, (look key l).getD (.agg #[.string ⟨#[]⟩, .slice none 0 0, .bool false]) = .agg #[.string k, .slice A n c, .bool g] ∧ (look key l).isSome = (wfind key ws).isSome ∧ ∀ y, wfind key ws = some y → k = y.key ∧ n = y.row.length ∧ g = y.gone ∧ n ≤ c ∧ Rd Ty.u8 w F A y.row := by
    cases hf : wfind key ws with
    | none => rw [h6.none_ _ hf]; exact ⟨_, _, _, _, _, rfl, rfl, fun y h => by cases h⟩
    | some y =>
      obtain ⟨v, hl, A, c, rfl, hc, hr⟩ := h6.some_ _ _ hf
      rw [hl]
      exact ⟨_, _, _, _, _, rfl, rfl, fun y' h => by injection h with h; subst h; exact ⟨rfl, rfl, rfl, hc, hr.mono fun i hi _ => hi.1⟩⟩
  obtain ⟨k, A, n, c, g, hv, hs, hy⟩ := hk
  rw [hv, hs] at hrun
  have hb4 := fun (o : Obj) => blk_set (blk_set (blk_set (((Fr.refl No W).alloc o).blk hbW (fun f => f)) 0 (.string k)) 1 (.slice A n c)) 2 (.bool g)
  have z0 := blk_frozen hbW 0
  have z1 := blk_frozen hbW 1
  have z2 := blk_frozen hbW 2
  have b0 := blk_cell hbW 0
  have b1 := blk_cell hbW 1
  have b2 := blk_cell hbW 2
  simp at b0 b1 b2
  have hlW : w.heap.size < W.heap.size := blk_lt hbW
  have c1 := blk_cell h4 1
  simp at c1
  have hxl : xb < w.heap.size := blk_lt h4
  have H := Lib.hid (And.intro hfW (And.intro hy hb4))
  clear h1 h2 h3 h4 h5 h6 hfW hbW hv hs hy hb4
  go_enter Try.func35, Try.ntmps35
  subst hW
  go_wp2_with fail
  have hb := blk_two1 w (.cells #[.string k, .slice A n c, .bool g] 43) (.cells #[.string k, .slice A n c, .bool g] 43)
  have d0 := blk_cell hb 0
  have d1 := blk_cell hb 1
  have d2 := blk_cell hb 2
  simp at d0 d1 d2
  have hff : Fr No w ((w.alloc (.cells #[.string k, .slice A n c, .bool g] 43)).alloc (.cells #[.string k, .slice A n c, .bool g] 43)) := ((Fr.refl No w).alloc _).alloc _
  refine bodyPost_ret (v := .tuple #[.agg #[.string k, .slice A n c, .bool g], .bool (wfind key ws).isSome]) (by simp [results, Try.results35, go_sem, d0, d1, d2]) rfl ⟨⟨k, A, n, c, g, rfl, fun y hy' => ?_⟩, hff⟩
  obtain ⟨e1, e2, e3, e4, e5⟩ := H.out.2.1 y hy'
  exact ⟨e1, e2, e3, e4, e5.fr0 hff⟩
theorem tx_own_nil (key : ByteArray) (w : World) : Calls Try.prog 35 #[.pointer none, .string key] w fun e w' => OwnIs w' No e none ∧ Fr No w w' := by
  go_enter Try.func35, Try.ntmps35
  go_wp2
  have hb := heap_alloc_new w (.cells #[.string ⟨#[]⟩, .slice none 0 0, .bool false] 43)
  have d0 := blk_cell hb 0
  have d1 := blk_cell hb 1
  have d2 := blk_cell hb 2
  simp at d0 d1 d2
  exact bodyPost_ret (v := .tuple #[.agg #[.string ⟨#[]⟩, .slice none 0 0, .bool false], .bool false]) (by simp [results, Try.results35, go_sem, d0, d1, d2]) rfl ⟨⟨_, _, _, _, _, rfl, fun y h => by cases h⟩, (Fr.refl No w).alloc _⟩
end Go.Proofs.Ytkcppngopdiljaa
/- 'slices.Sorted(maps.Keys(m))' of a map of writes. -/
set_option linter.unusedVariables false
set_option linter.unusedSimpArgs false
namespace Go.Proofs.Ytkcppngopdiljaa
open Go.RowKit Go.Maps Go.Sort Go.Shelf Go.WideElems Go.WideShapes

set_option maxHeartbeats 1000000 in
/-- maps.Keys, and slices.Sorted of what it handed back. -/
theorem keysW_ok (b : Nat) (l : List (ByteArray × Value)) (ks : List ByteArray) (w : World) (h : MapIs w b l) (hr : Rising ks) (hks : ∀ k, look k l = none ↔ k ∉ ks) (hs : ∀ k ∈ ks, k.size ≤ maxLen) (hl : ks.length ≤ 1000000000) :
    (Calls Try.prog 33 #[.map (some b)] w fun e w' => e = .returned (.func (.func 54) #[] #[.pointer (some ⟨w.heap.size, 0, none⟩)]) ∧ w' = w.alloc (.cells #[.map (some b)] 73)) ∧
    Calls Try.prog 32 #[.func (.func 54) #[] #[.pointer (some ⟨w.heap.size, 0, none⟩)]] (w.alloc (.cells #[.map (some b)] 73)) fun e w' =>
      ∃ A c, e = .returned (.slice A ks.length c) ∧ Ow Ty.str 9 w' (fun i => w.heap.size ≤ i) (.slice A ks.length c) ks ∧ Fr No w w' := by
  have hp := keys_perm hr h.nodup hks
  have hlen : l.length = ks.length := by simpa using hp.length_eq
  have hsl : ∀ p ∈ l, p.1.size ≤ maxLen := fun p hp' => by
    refine hs p.1 ?_
    rcases Classical.em (p.1 ∈ ks) with hm | hm
    · exact hm
    · exact absurd (List.mem_map.2 ⟨p, hp', rfl⟩) (look_none_iff.1 ((hks p.1).2 hm))
  obtain ⟨D0, hown, hperm, hsz⟩ := h.owns (P := Try.prog) Try.underlying9 hsl (by unfold maxLen; omega)
  have hbl := hown.lt
  have hmax : Maps.size D0 ≤ maxLen := by rw [hsz]; unfold maxLen; omega
  refine ⟨callsIn_wide.1 (AnyZ.keys_in Try.keys33 Fence.wide 5 trivial rfl (some b) w), ?_⟩
  have hseq : SeqGives Fence.wide 2 Try.prog 54 #[.pointer (some ⟨w.heap.size, 0, none⟩)] encStr (fun ss => ss.Perm (strKeys D0)) (Maps.size D0) (w.alloc (.cells #[.map (some b)] 73)) :=
    AnyZ.keys_gives (ρ := Try.keys33_ren) { Try.keys33 with } Fence.wide _ trivial rfl (by omega) w.heap.size b l.length D0 _ (by simp) (by simp) (by
      obtain ⟨es, clock, hb, Ft, hs, hD⟩ := hown
      exact ⟨es, clock, (Below.heap_alloc _ _ b hbl).trans hb, Ft, hs, hD⟩)
  have hsorts : ∀ m, AnyZ.SortsIn Try.prog Try.sorted32_ren Fence.wide m := fun m =>
    ⟨fun blk off cap ss W hH hblk hsz => callsIn_wide.2 (AnyM.slices_Sort_string Try.sort53 blk off cap ss W hH hblk hsz), fun p cap W => callsIn_wide.2 (AnyM.slices_Sort_string_none Try.sort53 p cap W)⟩
  have hc := callsIn_wide.1 (AnyZ.sorted_in Try.sorted32 Fence.wide 5 trivial trivial trivial trivial rfl (by omega) (hsorts _) (enters_of Try.func53 (by kernel_rfl) rfl)
    54 #[.pointer (some ⟨w.heap.size, 0, none⟩)] trivial (enters_of Try.func54 (by kernel_rfl) rfl) _ _ hmax (by rw [hsz]; omega) _ hseq)
  refine hc.mono ?_
  rintro e w' ⟨v, ss, rfl, hS, hrow, hnil, hb⟩
  have hS2 : ss.Perm (ks.map fun k => k.data.toList) := (hS.trans hperm).trans hp
  rw [rising_sorted hr hS2] at hrow
  have hsl2 : ss.length = ks.length := by simpa using hS2.length_eq
  rw [hsl2] at hrow
  have hO : Ow Ty.str 9 w' (fun i => w.heap.size ≤ i) v ks := by
    refine ⟨ks.map Value.string, ⟨hrow.1, hrow.2.imp id ?_⟩, ?_, fun k hk => by have := (hrow.lt k hk).1; simp at this; omega⟩
    · rintro ⟨g, cap, cur, h1, h2, h3⟩; exact ⟨g, cap, cur, h1, Nat.zero_le _, h3⟩
    · clear hrow hnil hS2 hp hlen hks hr hs hl hsl2
      induction ks with
      | nil => rfl
      | cons k ks ih => exact ⟨[.string k], ks.map Value.string, rfl, rfl, ih⟩
  obtain ⟨A, c, rfl, _, _⟩ := hO.slice
  exact ⟨A, c, rfl, hO, ((Fr.refl No w).alloc _).trans ((Fr.below hb).mono fun _ _ f => f.elim)⟩
end Go.Proofs.Ytkcppngopdiljaa
/- Layer 13 (store): Scan, whose rows may be written over; slices that are written over. -/
set_option linter.unusedVariables false
set_option linter.unusedSimpArgs false
namespace Go.Proofs.Ytkcppngopdiljaa
open Go.RowKit

/-- A slice of one's own, in a cell. -/
def Ty.own {α : Type} (t : Ty α) (e : TypeId) : Ty (List α) where
  sz := 1
  K := fun w F xs cs => ∃ A c, cs = [.slice A xs.length c] ∧ Ow t e w F (.slice A xs.length c) xs
  len := by rintro _ _ _ _ ⟨_, _, rfl, _⟩; rfl
  one := by rintro _ _ _ _ ⟨_, _, rfl, _⟩ u hu; simp at hu; subst hu; rfl
  stab := by rintro _ _ _ _ _ ⟨A, c, rfl, h⟩ k; exact ⟨A, c, rfl, h.stab k⟩
  mono := by rintro _ _ _ _ _ ⟨A, c, rfl, h⟩ k; exact ⟨A, c, rfl, h.mono k⟩
def tItemO : Ty Item := Ty.pair Ty.str (Ty.own Ty.u8 5)
theorem tItemO_open {w : World} {F : Nat → Prop} {x : Item} {cs : List Value} (h : tItemO.K w F x cs) : ∃ A c, cs = [.string x.1, .slice A x.2.length c] ∧ Ow Ty.u8 5 w F (.slice A x.2.length c) x.2 := by
  obtain ⟨_, _, rfl, rfl, A, c, rfl, h⟩ := h
  exact ⟨A, c, rfl, h⟩
theorem tItemO_mk {w : World} {F : Nat → Prop} {a : ByteArray} {r : Bs} {A : Option Addr} {c : Nat} (h : Ow Ty.u8 5 w F (.slice A r.length c) r) : tItemO.K w F (a, r) [.string a, .slice A r.length c] :=
  ⟨[_], [_], rfl, rfl, A, c, rfl, h⟩

theorem row_u8 {w : World} {F : Nat → Prop} {xs : Bs} {cs : List Value} (h : Row Ty.u8 w F xs cs) : cs = xs.map fun x => .int .u8 (x.toNat : Int) := by
  induction xs generalizing cs with
  | nil => exact h
  | cons x xs ih => obtain ⟨c, d, rfl, rfl, h2⟩ := h; rw [ih h2]; rfl
theorem row_u8_mk {w : World} {F : Nat → Prop} (xs : Bs) : Row Ty.u8 w F xs (xs.map fun x => .int .u8 (x.toNat : Int)) := by
  induction xs with
  | nil => rfl
  | cons x xs ih => exact ⟨_, _, rfl, rfl, ih⟩
/-- One's own bytes, of which one is written over. -/
theorem ow_u8 {w : World} {F : Nat → Prop} {A : Option Addr} {n c : Nat} {xs : Bs} (h : Ow Ty.u8 5 w F (.slice A n c) xs) {i : Nat} (hi : i < xs.length) :
    ∃ g, A = some ⟨g, 0, none⟩ ∧ F g ∧ g < w.heap.size ∧ (∃ u, w.cell? ⟨g, i, none⟩ = some u) ∧ w.frozen? ⟨g, i, none⟩ = false ∧ ∀ b : UInt8, Ow Ty.u8 5 (w.setCell ⟨g, i, none⟩ (.int .u8 (b.toNat : Int))) F (.slice A n c) (xs.set i b) := by
  obtain rfl := h.rd.1
  obtain ⟨cs, h1, h2, h3⟩ := h
  rcases h1.2 with ⟨h4, h5⟩ | ⟨g, cap, cur, h4, hb, hg, r⟩
  · omega
  · injection h4 with h5 h6 h7
    subst h5
    subst h7
    have hcs := row_u8 h2
    have hlt : i < xs.length * Ty.u8.sz := by show i < xs.length * 1; omega
    refine ⟨g, rfl, h3 g rfl, blk_lt hg, ⟨_, (h1.cellAt i hlt).trans (by rw [hcs, List.getElem?_map, List.getElem?_eq_getElem hi]; rfl)⟩, h1.frozenAt i, fun b => ?_⟩
    have hst := h1.stored i (.int .u8 (b.toNat : Int))
    refine ⟨cs.set i (.int .u8 (b.toNat : Int)), by rw [List.length_set]; exact hst.1, ?_, h3⟩
    have : cs.set i (.int .u8 (b.toNat : Int)) = (xs.set i b).map fun x => .int .u8 (x.toNat : Int) := by rw [hcs, List.map_set]
    rw [this]
    exact row_u8_mk _

/-- What the loop holds at a round's head: k keys were seen. -/
structure ScanInvO (w w1 : World) (s : Sto) (a : Int) (lo hi : ByteArray) (most : Int) (k n : Nat) (v : Value) (wr : World) : Prop where
  le : k ≤ s.kc.length
  len : n = ((s.kc.take k).filterMap (Sto.sel a lo hi)).length
  own : Ow tItemO 65 wr (fun i => w1.heap.size ≤ i) v ((s.kc.take k).filterMap (Sto.sel a lo hi))
  most : (((s.kc.take k).filterMap (Sto.sel a lo hi)).length : Int) ≤ max most 0
  fr : Fr No w1 wr

theorem ScanInvO.skip {w w1 : World} {s : Sto} {a : Int} {lo hi : ByteArray} {most : Int} {k n : Nat} {v : Value} {wr wr' : World} (I : ScanInvO w w1 s a lo hi most k n v wr) {q : ByteArray × Chn} (hk : k < s.kc.length)
    (hs : (s.kc.take (k + 1)).filterMap (Sto.sel a lo hi) = (s.kc.take k).filterMap (Sto.sel a lo hi) ++ (Sto.sel a lo hi q).toList) (hn : Sto.sel a lo hi q = none) (f : Fr No wr wr') : ScanInvO w w1 s a lo hi most (k + 1) n v wr' := by
  rw [hn] at hs
  have e : (s.kc.take (k + 1)).filterMap (Sto.sel a lo hi) = (s.kc.take k).filterMap (Sto.sel a lo hi) := by simpa using hs
  exact ⟨hk, by rw [e]; exact I.len, by rw [e]; exact I.own.fr0 f, by rw [e]; exact I.most, I.fr.trans (f.mono fun _ _ f => f.elim)⟩

theorem ScanInvO.add {w w1 : World} {s : Sto} {a : Int} {lo hi : ByteArray} {most : Int} {k n : Nat} {v : Value} {wr w' : World} (I : ScanInvO w w1 s a lo hi most k n v wr) {q : ByteArray × Chn} {x : Item} {A : Option Addr} {c : Nat} (hk : k < s.kc.length)
    (hs : (s.kc.take (k + 1)).filterMap (Sto.sel a lo hi) = (s.kc.take k).filterMap (Sto.sel a lo hi) ++ (Sto.sel a lo hi q).toList) (hn : Sto.sel a lo hi q = some x) (hm : (n : Int) < most) (hf : Fr No w1 w')
    (ho : Ow tItemO 65 w' (fun i => w1.heap.size ≤ i) (.slice A (n + 1) c) ((s.kc.take k).filterMap (Sto.sel a lo hi) ++ [x])) : ScanInvO w w1 s a lo hi most (k + 1) (n + 1) (.slice A (n + 1) c) w' := by
  rw [hn] at hs
  have e : (s.kc.take (k + 1)).filterMap (Sto.sel a lo hi) = (s.kc.take k).filterMap (Sto.sel a lo hi) ++ [x] := hs
  have hl := I.len
  exact ⟨hk, by rw [e]; simp; omega, by rw [e]; exact ho, by rw [e]; simp; omega, hf⟩

set_option maxHeartbeats 2000000 in
theorem store_scan_own {w : World} {F : Nat → Prop} {sb : Nat} {s : Sto} {m : Nat} (h : StoreAt w F sb s) (hs : s.Small m) (hm : m ≤ 100000000) (a : Int) (lo hi : ByteArray) (most : Int) :
    Calls Try.prog 45 #[.pointer (some ⟨sb, 0, none⟩), .int .i64 a, .string lo, .string hi, .int .i64 most] w fun e w' =>
      ∃ A c, e = .returned (.slice A (s.scan a lo hi most).length c) ∧ Ow tItemO 65 w' (fun i => w.heap.size ≤ i) (.slice A (s.scan a lo hi most).length c) (s.scan a lo hi most) ∧ Fr No w w' := by
  have hk := store_keys h hs hm
  have hkl : (s.kc.length : Int) ≤ 100000000 := by have := hs.keys; omega
  have HH := Lib.hid (And.intro hk (And.intro h (And.intro hs hm)))
  clear hk h hs hm
  have fin : ∀ (w1 wr : World) (k n : Nat) (A2 : Option Addr) (c2 : Nat), Fr No w w1 → ScanInvO w w1 s a lo hi most k n (.slice A2 n c2) wr → s.scan a lo hi most = (s.kc.take k).filterMap (Sto.sel a lo hi) →
      ∃ A c, Ending.returned (.slice A2 n c2) = .returned (.slice A (s.scan a lo hi most).length c) ∧ Ow tItemO 65 wr (fun i => w.heap.size ≤ i) (.slice A (s.scan a lo hi most).length c) (s.scan a lo hi most) ∧ Fr No w wr := by
    intro w1 wr k n A2 c2 hf I e
    have := I.own
    rw [e]
    obtain rfl := I.len
    exact ⟨A2, c2, rfl, this.mono (fun i hi _ => by have := hf.size; omega), hf.trans (I.fr.mono fun _ _ f => f.elim)⟩
  have FIN := Lib.hid fin
  clear fin
  go_enter Try.func45, Try.ntmps45
  go_wp2_with (go_at_call 66; refine HH.out.1.mono ?_; rintro e w1 ⟨A, c, rfl, hr, hc, hf1⟩; have HR := Lib.hid (And.intro hr hf1); clear hr hf1)
  go_loopw [11, 19] (fun v i wr => ∃ (k n : Nat) (A2 : Option Addr) (c2 : Nat), v = .slice A2 n c2 ∧ i = .int .i64 k ∧ Hid (ScanInvO w w1 s a lo hi most k n (.slice A2 n c2) wr)) (fun _ i _ => s.kc.length - (intOf i).toNat)
  case atStart => exact ⟨0, 0, none, 0, rfl, rfl, ⟨Nat.zero_le _, rfl, Ow.nil, by simp; omega, Fr.refl _ _⟩⟩
  case round =>
    obtain ⟨k, n, A2, c2, rfl, rfl, I⟩ := hrel
    by_cases hlt : k < s.kc.length
    · obtain ⟨ad, rfl, x0⟩ := str_at (HR.out.1.fr0 I.out.fr) (i := k) (by simpa using hlt)
      have hwr : Fr No w wr := HR.out.2.trans (I.out.fr.mono fun _ _ f => f.elim)
      have hget := store_get (HH.out.2.1.fr0 hwr) HH.out.2.2.1 HH.out.2.2.2 a s.kc[k].1
      have hlook : s.get a s.kc[k].1 = s.kc[k].2.get a := sto_get_some (look_of_mem HH.out.2.1.rising.nodup (List.getElem_mem hlt)) a
      rw [hlook] at hget
      have hsel := Sto.sel_step (a := a) (lo := lo) (hi := hi) hlt
      have hstop2 := Sto.scan_stop2 (a := a) (lo := lo) (hi := hi) (most := most) HH.out.2.1.rising hlt
      rw [List.getElem_map] at x0
      obtain ⟨q, hq⟩ : ∃ q, s.kc[k] = q := ⟨_, rfl⟩
      rw [hq] at x0 hget hsel hstop2
      have HG := Lib.hid (And.intro hget (And.intro hsel (And.intro hstop2 hwr)))
      clear hget hsel hstop2 hlook hq hwr
      have hk0 : (0 : Int) ≤ (k : Int) := Int.natCast_nonneg _
      have hk1 : (k : Int) < (s.kc.length : Int) := by omega
      by_cases h1 : most ≤ (n : Int)
      · go_wp2
        go_ret
        exact FIN.out w1 wr k n A2 c2 HR.out.2 I.out (Sto.scan_stop1 (by rw [← I.out.len]; exact h1) I.out.most)
      · cases h2 : hi.toList.isEmpty <;> cases h3 : Op.bytesLess q.1.toList hi.toList
        case false.false =>
          go_wp2
          go_ret
          exact FIN.out w1 wr k n A2 c2 HR.out.2 I.out (HG.out.2.2.1 (by rw [size_isEmpty] at h2; simpa using h2) h3 I.out.most)
        all_goals
          have hpass : Hid (hi.size = 0 ∨ kl q.1 hi = true) := by first | exact .inr h3 | exact .inl (by rw [size_isEmpty] at h2; simpa using h2)
          cases hr : q.2.get a with
          | none =>
            have hsel : Sto.sel a lo hi q = none := by unfold Sto.sel; rw [hr]
            have HS := Lib.hid hsel
            clear hsel
            rw [hr] at HG
            clear hr
            go_wp2_with (go_at_call 36; refine HG.out.1.mono ?_; rintro e w2 ⟨⟨A1, c1, rfl, ho1⟩, hf2⟩; have HO1 := Lib.hid ho1; clear ho1)
            go_roundw
            case rel => exact ⟨k + 1, n, A2, c2, rfl, by go_num, I.out.skip hlt HG.out.2.1 HS.out hf2⟩
            case measure => simp [intOf]; omega
          | some row =>
            rw [hr] at HG
            cases h4 : Op.bytesLess q.1.toList lo.toList
            · have hsel : Sto.sel a lo hi q = some (q.1, row) := by unfold Sto.sel; rw [hr]; exact if_pos ⟨h4, hpass.out⟩
              have HS := Lib.hid hsel
              clear hsel hr
              go_wp2_with (first
                | (go_at_call 36; refine HG.out.1.mono ?_; rintro e w2 ⟨⟨A1, c1, rfl, ho1⟩, hf2⟩; have HO1 := Lib.hid ho1; clear ho1)
                | (at_builtin; refine ow_append tItemO (ys := [(q.1, row)]) ((I.out.own.fr0 hf2).fr0 ((Fr.refl No w2).alloc _)) _ _ _ 40 rfl rfl Try.underlying62 info_item rfl (by decide) (by decide) rfl rfl rfl
                    (Row.single (tItemO_mk (A := A1) (c := c1) ((HO1.out.fr0 ((Fr.refl No w2).alloc _)).mono fun i hi hl => ?qf))) (At.block (heap_alloc_new _ _)) ?ql ?_
                   case qf => exact ⟨by have := I.out.fr.size; have hi' : wr.heap.size ≤ i := hi; omega, fun he => by have := (I.out.own.own he).2; have hi' : wr.heap.size ≤ i := hi; omega⟩
                   case ql => have := I.out.len; have := List.length_filterMap_le (Sto.sel a lo hi) (s.kc.take k); have := List.length_take_le k s.kc; simp; omega
                   intro A3 c3 w3 hown3 hg3 hat3
                   have hw3 : Fr No w1 w3 := (((I.out.fr.trans (hf2.mono fun _ _ f => f.elim)).alloc _).grown hg3 fun i hi => .inr (I.out.own.own hi).1)
                   have hown4 : Ow tItemO 65 w3 (fun i => w1.heap.size ≤ i) (.slice A3 (n + 1) c3) ((s.kc.take k).filterMap (Sto.sel a lo hi) ++ [(q.1, row)]) := by
                     have h5 := hown3
                     rw [← I.out.len] at h5
                     exact h5.mono fun i hi _ => by have := I.out.fr.size; have := hf2.size; simp at hi; omega
                   have hlen3 : ((s.kc.take k).filterMap (Sto.sel a lo hi)).length + [(q.1, row)].length = n + 1 := by rw [← I.out.len]; rfl
                   rw [hlen3]
                   have H3 := Lib.hid (And.intro hw3 hown4)
                   clear hw3 hown4 hown3 hg3 hat3 hlen3))
              go_roundw
              case rel => exact ⟨k + 1, n + 1, A3, c3, rfl, by go_num, I.out.add hlt HG.out.2.1 HS.out (by omega) H3.out.1 H3.out.2⟩
              case measure => simp [intOf]; omega
            · have hsel : Sto.sel a lo hi q = none := by unfold Sto.sel; rw [hr]; exact if_neg (by show ¬ (kl q.1 lo = false ∧ _); rw [show kl q.1 lo = true from h4]; simp)
              have HS := Lib.hid hsel
              clear hsel hr
              go_wp2_with (go_at_call 36; refine HG.out.1.mono ?_; rintro e w2 ⟨⟨A1, c1, rfl, ho1⟩, hf2⟩; have HO1 := Lib.hid ho1; clear ho1)
              go_roundw
              case rel => exact ⟨k + 1, n, A2, c2, rfl, by go_num, I.out.skip hlt HG.out.2.1 HS.out hf2⟩
              case measure => simp [intOf]; omega
    · obtain rfl : k = s.kc.length := by have := I.out.le; omega
      go_wp2
      go_ret
      have e := I.out.most
      rw [List.take_length] at e
      exact FIN.out w1 wr _ n A2 c2 HR.out.2 I.out (by rw [List.take_length]; exact Sto.scan_end e)
end Go.Proofs.Ytkcppngopdiljaa
/- Layer 14 (tx): Writes. -/
set_option linter.unusedVariables false
set_option linter.unusedSimpArgs false
namespace Go.Proofs.Ytkcppngopdiljaa
open Go.RowKit

/-- A write whose row is one's own. -/
def tWrO : Ty Wr := Ty.iso (Ty.pair Ty.str (Ty.pair (Ty.own Ty.u8 5) Ty.bool)) fun x => (x.key, x.row, x.gone)
theorem tWrO_open {w : World} {F : Nat → Prop} {x : Wr} {cs : List Value} (h : tWrO.K w F x cs) :
    ∃ A c, cs = [.string x.key, .slice A x.row.length c, .bool x.gone] ∧ Ow Ty.u8 5 w F (.slice A x.row.length c) x.row := by
  obtain ⟨_, _, rfl, rfl, _, _, rfl, ⟨A, c, rfl, h1⟩, rfl⟩ := h
  exact ⟨A, c, rfl, h1⟩
theorem tWrO_mk {w : World} {F : Nat → Prop} {a : ByteArray} {r : Bs} {g : Bool} {A : Option Addr} {c : Nat} (h : Ow Ty.u8 5 w F (.slice A r.length c) r) :
    tWrO.K w F ⟨a, r, g⟩ [.string a, .slice A r.length c, .bool g] :=
  ⟨[_], [_, _], rfl, rfl, [_], [_], rfl, ⟨A, c, rfl, h⟩, rfl⟩
theorem info_wrv : (Try.prog.info? 43).map (fun i => (i.zero, i.size, i.bytes)) = some (some (.agg #[.string ⟨#[]⟩, .slice none 0 0, .bool false]), 3, 48) := by kernel_rfl
theorem wfind_at {ws : List Wr} (hr : Rising (ws.map Wr.key)) {i : Nat} (hi : i < ws.length) : wfind ws[i].key ws = some ws[i] := by
  cases hf : wfind ws[i].key ws with
  | none => exact absurd (List.mem_map_of_mem (List.getElem_mem hi)) (wfind_none.1 hf)
  | some y =>
    obtain ⟨hm, he⟩ := wfind_some hf
    obtain ⟨j, hj, rfl⟩ := List.getElem_of_mem hm
    have hn := hr.nodup
    have : j = i := by
      rcases Nat.lt_trichotomy j i with h | h | h
      · exact absurd he (by have := List.pairwise_iff_getElem.1 hn j i (by simpa using hj) (by simpa using hi) h; simpa using this)
      · exact h
      · exact absurd he.symm (by have := List.pairwise_iff_getElem.1 hn i j (by simpa using hi) (by simpa using hj) h; simpa using this)
    subst this
    rfl

theorem tx_writes_nil (w : World) : Calls Try.prog 14 #[.pointer none] w fun e w' => e = .returned (.slice none 0 0) ∧ w' = w := by
  go_enter Try.func14, Try.ntmps14
  go_wp2
  go_ret
  exact ⟨rfl, rfl⟩

set_option maxHeartbeats 2000000 in
set_option maxRecDepth 100000 in
theorem tx_writes {w : World} {F : Nat → Prop} {xb : Nat} {base : Int} {ws : List Wr} (h : TxAt w F xb base ws) (hl : ws.length ≤ 1000000) (hk : ∀ x ∈ ws, x.key.size ≤ 1000000000 ∧ x.row.length ≤ 1000000000) :
    Calls Try.prog 14 #[.pointer (some ⟨xb, 0, none⟩)] w fun e w' => ∃ A c, e = .returned (.slice A ws.length c) ∧ Ow tWrO 43 w' (fun i => w.heap.size ≤ i) (.slice A ws.length c) ws ∧ Fr No w w' := by
  obtain ⟨h1, mb, l, h2, h3, h4, h5, h6⟩ := h
  have hkeys := keysW_ok mb l (ws.map Wr.key) w h5 h6.rising h6.look_iff (fun k hk' => by
    obtain ⟨x, hx, rfl⟩ := List.mem_map.1 hk'
    have := (hk x hx).1
    unfold maxLen; omega) (by rw [List.length_map]; omega)
  have a1 := blk_cell h4 1
  simp at a1
  have hlI : (ws.length : Int) ≤ 1000000 := by omega
  have H := Lib.hid (And.intro hkeys (And.intro h4 (And.intro h5 (And.intro (h6.mono fun i hi hl => (⟨hi.1, hl⟩ : F i ∧ i < w.heap.size)) hk))))
  clear hkeys h1 h2 h3 h4 h5 h6 hk
  go_enter Try.func14, Try.ntmps14
  go_wp2_with fail
  refine H.out.1.1.mono ?_
  rintro e1 w1 ⟨rfl, rfl⟩
  go_wp2_with fail
  refine H.out.1.2.mono ?_
  rintro e2 w2 ⟨A, c, rfl, ho, hf2⟩
  rw [List.length_map] at ho ⊢
  have HO := Lib.hid (And.intro (ho.rd.2.2.mono fun i hi hl => (⟨hi, hl⟩ : w.heap.size ≤ i ∧ i < w2.heap.size)) hf2)
  clear ho hf2
  go_wp2_with fail
  go_loopw [3, 16] (fun v i wr => ∃ (k : Nat) (A3 : Option Addr) (c3 : Nat), k ≤ ws.length ∧ i = .int .i64 k ∧ v = .slice A3 k c3 ∧ Hid (Ow tWrO 43 wr (fun i => w2.heap.size ≤ i) (.slice A3 k c3) (ws.take k)) ∧ Hid (Fr No w2 wr)) (fun _ i _ => ws.length - (intOf i).toNat)
  case atStart => exact ⟨0, none, 0, Nat.zero_le _, rfl, rfl, by show Ow _ _ _ _ _ _; simpa using Ow.nil, Fr.refl _ _⟩
  case round =>
    obtain ⟨k, A3, c3, hk, rfl, rfl, hO, hf⟩ := hrel
    have hq0 : (0 : Int) ≤ (k : Int) := Int.natCast_nonneg _
    have hwr : Fr No w wr := HO.out.2.trans (hf.out.mono fun _ _ f => f.elim)
    have a1 := hwr.cell a1 (fun f => f)
    by_cases hlt : k < ws.length
    · have hq1 : (k : Int) < (ws.length : Int) := by omega
      obtain ⟨ad, rfl, x0⟩ := str_at (HO.out.1.fr0 hf.out) (i := k) (by simpa using hlt)
      rw [List.getElem_map] at x0
      obtain ⟨v, hv, A4, c4, rfl, hc4, hr4⟩ := H.out.2.2.2.1.some_ _ _ (wfind_at H.out.2.2.2.1.rising hlt)
      have hrow := (H.out.2.2.2.2 _ (List.getElem_mem hlt)).2
      have hrun := (run_map_look (P := Try.prog) (w := wr) (H.out.2.2.1.stab (hwr.block _ H.out.2.2.1.lt (fun f => f))) 73 _ _ Try.underlying73 Try.underlying9 _ (zero_wr wr) ws[k].key).1
      rw [hv] at hrun
      simp only [Option.getD_some] at hrun
      have htk : ws.take (k + 1) = ws.take k ++ [ws[k]] := List.take_succ_eq_append_getElem hlt
      have hlk : (ws.take k).length = k := by rw [List.length_take]; omega
      obtain ⟨x, hx⟩ : ∃ x, ws[k] = x := ⟨_, rfl⟩
      rw [hx] at x0 hc4 hr4 hrow hrun htk
      obtain ⟨W, hW⟩ : ∃ W, W = wr.alloc (.cells #[.string x.key, .slice A4 x.row.length c4, .bool x.gone] 43) := ⟨_, rfl⟩
      have hfW : Fr No wr W := by rw [hW]; exact (Fr.refl No wr).alloc _
      have hbW : W.heap[wr.heap.size]? = some (.cells #[.string x.key, .slice A4 x.row.length c4, .bool x.gone] 43 (0, 0)) := by rw [hW]; exact heap_alloc_new wr _
      have hcl := clone_ok (w := W) (c := c4) ((hr4.fr0 hwr).fr0 hfW) rfl (by omega)
      have HT := Lib.hid (And.intro htk (And.intro hlk (And.intro hcl (And.intro hbW (And.intro hfW hwr)))))
      clear htk hlk hcl hbW hfW hwr hc4 hr4 hrow hv hx
      go_wp2_with fail
      rw [← hW]
      clear hW
      refine HT.out.2.2.1.mono ?_
      rintro e5 w5 ⟨A5, c5, rfl, ho5, hf5⟩
      have hb5 := hf5.blk HT.out.2.2.2.1 (fun f => f)
      have k0 := blk_cell hb5 0
      have k1 := blk_cell hb5 1
      have k2 := blk_cell hb5 2
      have z1 := blk_frozen hb5 1
      simp at k0 k1 k2
      have hlt5 : wr.heap.size < w5.heap.size := blk_lt hb5
      have hwl : w2.heap.size ≤ wr.heap.size := hf.out.size
      have hWl : wr.heap.size < W.heap.size := blk_lt HT.out.2.2.2.1
      have hnw := heap_alloc_new (w5.setCell ⟨wr.heap.size, 1, none⟩ (.slice A5 x.row.length c5)) (.cells #[.string x.key, .slice A5 x.row.length c5, .bool x.gone] 43)
      rw [show (w5.setCell ⟨wr.heap.size, 1, none⟩ (.slice A5 x.row.length c5)).heap.size = w5.heap.size by simp [World.setCell]] at hnw
      have hs6 : ((w5.setCell ⟨wr.heap.size, 1, none⟩ (.slice A5 x.row.length c5)).alloc (.cells #[.string x.key, .slice A5 x.row.length c5, .bool x.gone] 43)).heap.size = w5.heap.size + 1 := by simp [World.setCell]
      have hO6 : Ow tWrO 43 ((w5.setCell ⟨wr.heap.size, 1, none⟩ (.slice A5 x.row.length c5)).alloc (.cells #[.string x.key, .slice A5 x.row.length c5, .bool x.gone] 43)) (fun i => w2.heap.size ≤ i ∧ i ≠ wr.heap.size) (.slice A3 k c3) (ws.take k) :=
        ((((hO.out.mono fun i hi hl => (⟨hi, by omega⟩ : w2.heap.size ≤ i ∧ i ≠ wr.heap.size)).fr0 HT.out.2.2.2.2.1).fr0 hf5).set ⟨wr.heap.size, 1, none⟩ (fun h => h.2 rfl) _).fr0 ((Fr.refl No _).alloc _)
      have hR6 : Ow Ty.u8 5 ((w5.setCell ⟨wr.heap.size, 1, none⟩ (.slice A5 x.row.length c5)).alloc (.cells #[.string x.key, .slice A5 x.row.length c5, .bool x.gone] 43)) (fun i => W.heap.size ≤ i) (.slice A5 x.row.length c5) x.row :=
        ((ho5).set ⟨wr.heap.size, 1, none⟩ (fun h => by have h' : W.heap.size ≤ wr.heap.size := h; omega) _).fr0 ((Fr.refl No _).alloc _)
      have hf6 : Fr No w2 ((w5.setCell ⟨wr.heap.size, 1, none⟩ (.slice A5 x.row.length c5)).alloc (.cells #[.string x.key, .slice A5 x.row.length c5, .bool x.gone] 43)) :=
        ((hf.out.trans ((HT.out.2.2.2.2.1.trans (hf5.mono fun _ _ f => f.elim)).mono fun _ _ f => f.elim)).set ⟨wr.heap.size, 1, none⟩ (.inr hwl) _).alloc _
      have hnb : ∀ j, (Value.slice A3 k c3).ownBlock = some j → w2.heap.size ≤ j ∧ j < wr.heap.size := fun j hj => hO.out.own hj
      have H5 := Lib.hid (And.intro hO6 (And.intro hR6 (And.intro hf6 (And.intro hnb (And.intro hnw (And.intro hs6 hf5.size))))))
      have hki : ((k : Int) + 1) * 48 ≤ 140737488355328 := by omega
      clear ho5 hf5 hb5 hnw hs6 hO6 hR6 hf6 hnb
      go_wp2_with (at_builtin; refine ow_append tWrO (ys := [x]) H5.out.1 _ _ (.agg #[.string ⟨#[]⟩, .slice none 0 0, .bool false]) 48 rfl rfl Try.underlying29 info_wrv rfl (by decide) (by decide) rfl rfl rfl (Row.single (tWrO_mk (a := x.key) (r := x.row) (g := x.gone) (A := A5) (c := c5) (H5.out.2.1.mono fun i hi hl => ?qf))) (At.block H5.out.2.2.2.2.1) ?ql ?_
                   case qf =>
                     have hi' : W.heap.size ≤ i := hi
                     exact ⟨⟨by omega, by omega⟩, fun he => by have := H5.out.2.2.2.1 i he; omega⟩
                   case ql => rw [HT.out.2.1]; simp; omega
                   intro A7 c7 w7 hown7 hg7 hat7
                   have hlen7 : (ws.take k).length + [x].length = k + 1 := by rw [HT.out.2.1]; rfl
                   rw [hlen7] at hown7 hat7 ⊢
                   have hown8 : Ow tWrO 43 w7 (fun i => w2.heap.size ≤ i) (.slice A7 (k + 1) c7) (ws.take k ++ [x]) := hown7.mono fun i hi _ => by
                     rcases hi with hi | hi
                     · exact hi.1
                     · have h1 := H5.out.2.2.2.2.2.1; have h2 := H5.out.2.2.2.2.2.2; rw [h1] at hi; show w2.heap.size ≤ i; omega
                   have hf8 : Fr No w2 w7 := H5.out.2.2.1.grown hg7 fun j hj => .inr (H5.out.2.2.2.1 j hj).1
                   have H8 := Lib.hid (And.intro hown8 hf8)
                   clear hown7 hg7 hat7 hown8 hf8 hlen7)
      go_roundw
      case rel => exact ⟨k + 1, A7, c7, by omega, by go_num, rfl, by rw [HT.out.1]; exact H8.out.1, H8.out.2⟩
      case measure => simp [intOf]; omega
    · obtain rfl : k = ws.length := by omega
      have hOe := hO.out
      rw [List.take_length] at hOe
      have HE := Lib.hid (And.intro hOe hwr)
      clear hOe hwr
      go_wp2_with fail
      go_ret
      exact ⟨_, _, rfl, HE.out.1.mono fun i hi _ => by have := HO.out.2.size; have hi' : w2.heap.size ≤ i := hi; show w.heap.size ≤ i; omega, HE.out.2⟩
end Go.Proofs.Ytkcppngopdiljaa
/- Layer 13 (store): Apply where it gives up; Apply of any batch. -/
set_option linter.unusedVariables false
set_option linter.unusedSimpArgs false
namespace Go.Proofs.Ytkcppngopdiljaa
open Go.RowKit

theorem store_apply_nil (v : Value) (n : Int) (A : Option Addr) (l c : Nat) (w : World) (hv : v = .agg #[.int .i64 n, .slice A l c]) : Calls Try.prog 38 #[.pointer none, v] w fun e w' => e = .returned (.int .i64 5) ∧ Fr No w w' := by
  subst hv
  go_enter Try.func38, Try.ntmps38
  go_wp2
  go_ret
  exact ⟨rfl, (Fr.refl No w).alloc _⟩

theorem store_apply_form {w : World} {sb : Nat} {R : Nat → Prop} {A : Option Addr} {c : Nat} {ws : List Wr} (n : Int) (hR : Rd tWr w R A ws) (hl : ws.length ≤ 1000000000) (hk : ∀ x ∈ ws, x.key.size ≤ 9223372036854775807) (hok : right n ws = false) :
    Calls Try.prog 38 #[.pointer (some ⟨sb, 0, none⟩), .agg #[.int .i64 n, .slice A ws.length c]] w fun e w' => e = .returned (.int .i64 2) ∧ Fr No w w' := by
  have hright := fun w' (f : Fr No w w') => right_ok (w := w') n A c ws (hR.fr0 f) hl hk
  rw [hok] at hright
  have H := Lib.hid hright
  clear hright hR hk hok
  go_enter Try.func38, Try.ntmps38
  go_wp2_with (go_at_call 57; refine (H.out _ ((Fr.refl No w).alloc _)).mono ?_; rintro e w1 ⟨rfl, hf1⟩)
  go_ret
  exact ⟨rfl, ((Fr.refl No w).alloc _).trans (hf1.mono fun _ _ f => f.elim)⟩

theorem store_apply_arg {w : World} {F : Nat → Prop} {sb : Nat} {s : Sto} {R : Nat → Prop} {A : Option Addr} {c : Nat} {ws : List Wr} (n : Int) (h : StoreAt w F sb s) (h0 : 0 ≤ s.now) (h1 : s.now ≤ 100000000) (hR : Rd tWr w R A ws) (hl : ws.length ≤ 1000000000) (hk : ∀ x ∈ ws, x.key.size ≤ 9223372036854775807) (hok : right n ws = true) (hn : n ≠ s.now + 1) :
    Calls Try.prog 38 #[.pointer (some ⟨sb, 0, none⟩), .agg #[.int .i64 n, .slice A ws.length c]] w fun e w' => e = .returned (.int .i64 1) ∧ Fr No w w' := by
  have hright := fun w' (f : Fr No w w') => right_ok (w := w') n A c ws (hR.fr0 f) hl hk
  rw [hok] at hright
  obtain ⟨_, mb, l, G, _, _, h4, _, _, _⟩ := h
  have cc : ∀ w', Fr No w w' → w'.heap[sb]? = some (.cells #[.map (some mb), .int .i64 s.now] 91 (0, 0)) := fun w' f => f.blk h4 (fun f => f)
  have H := Lib.hid (And.intro hright cc)
  clear hright hR hk hok h4 cc
  go_enter Try.func38, Try.ntmps38
  go_wp2_with (go_at_call 57; refine (H.out.1 _ ((Fr.refl No w).alloc _)).mono ?_; rintro e w1 ⟨rfl, hf1⟩
               have b1 := blk_cell (H.out.2 w1 (((Fr.refl No w).alloc _).trans (hf1.mono fun _ _ f => f.elim))) 1
               have e0 : w1.cell? ⟨w.heap.size, 0, none⟩ = some (.int .i64 n) := hf1.cell (by simp) (fun f => f)
               simp at b1
               have HF1 := Lib.hid hf1; clear hf1)
  go_quiet (fail)
  go_wp2
  go_ret
  exact ⟨rfl, (((Fr.refl No w).alloc _).trans (HF1.out.mono fun _ _ f => f.elim)).drewN _⟩

theorem store_apply {w : World} {F R : Nat → Prop} {sb : Nat} {s : Sto} {m : Nat} {A : Option Addr} {c : Nat} {ws : List Wr} (n : Int) (h : StoreAt w F sb s) (hs : s.Small m) (hm : m ≤ 100000000) (hR : Rd tWr w R A ws) (hd : ∀ i, R i → ¬ F i)
    (hl : ws.length ≤ 1000000000) (hk : ∀ x ∈ ws, x.key.size ≤ 9223372036854775807) :
    Calls Try.prog 38 #[.pointer (some ⟨sb, 0, none⟩), .agg #[.int .i64 n, .slice A ws.length c]] w fun e w' =>
      e = .returned (.int .i64 (s.apply n ws).2) ∧ StoreAt w' (fun i => F i ∨ w.heap.size ≤ i) sb (s.apply n ws).1 ∧ Fr F w w' := by
  unfold Sto.apply
  cases hok : right n ws with
  | false =>
    rw [if_pos rfl]
    refine (store_apply_form n hR hl hk hok).mono ?_
    rintro e w' ⟨rfl, hf⟩
    exact ⟨rfl, (h.fr0 hf).mono fun i hi _ => .inl hi, hf.mono fun _ _ f => f.elim⟩
  | true =>
    rw [if_neg (by simp)]
    by_cases hn : n = s.now + 1
    · subst hn
      rw [if_pos rfl]
      exact store_apply_ok h hs hm hR hd hok
    · rw [if_neg hn]
      refine (store_apply_arg n h hs.now0 (by have := hs.now1; omega) hR hl hk hok hn).mono ?_
      rintro e w' ⟨rfl, hf⟩
      exact ⟨rfl, (h.fr0 hf).mono fun i hi _ => .inl hi, hf.mono fun _ _ f => f.elim⟩
end Go.Proofs.Ytkcppngopdiljaa
/- Laws of layer 13 (store): the document's example; StoreNil. -/
set_option linter.unusedVariables false
set_option linter.unusedSimpArgs false
namespace Go.Proofs.Ytkcppngopdiljaa
open Go.RowKit

def keyA : ByteArray := ⟨#[97]⟩
def oneWr : List Wr := [⟨keyA, [49], false⟩]
theorem one_right : right 1 oneWr = true := by
  unfold right oneWr allFit allFit fits
  rw [kl_eq, show keyA.size = 1 from rfl]
  simp [keyA, toList_data]
def oneSto : Sto := ⟨[(keyA, ⟨[⟨1, [49], false⟩], 1⟩)], 1⟩
theorem one_apply : Sto.empty.apply 1 oneWr = (oneSto, 0) := by
  unfold Sto.apply
  rw [one_right, if_neg (by simp)]
  exact if_pos rfl
theorem one_look : look keyA oneSto.kc = some ⟨[⟨1, [49], false⟩], 1⟩ := by simp [oneSto, look]
theorem one_get0 : oneSto.get 0 keyA = none := by rw [sto_get_some one_look]; rfl
theorem one_get1 : oneSto.get 1 keyA = some [49] := by rw [sto_get_some one_look]; rfl
theorem empty_small : Sto.Small Sto.empty 0 := ⟨Int.le_refl _, Int.le_refl _, Nat.le_refl _, (fun p hp => by cases hp), (fun p hp => by cases hp)⟩
theorem one_small : Sto.Small oneSto 64 := by
  have := empty_small.applied (l := oneWr) (List.Pairwise.nil) one_right
  exact this

theorem Rd.block {α : Type} {t : Ty α} {w : World} {F : Nat → Prop} {b : Nat} {cs : Array Value} {ty : TypeId} {fr : Nat × Nat} {xs : List α} (hb : w.heap[b]? = some (.cells cs ty fr)) (hF : F b) (hr : Row t w F xs cs.toList) (hl : xs.length ≤ 9223372036854775807) :
    Rd t w F (some ⟨b, 0, none⟩) xs := by
  refine ⟨hl, cs.toList, hr, fun j u hu => ?_⟩
  obtain ⟨ad, e, hc⟩ := At.block hb j u hu
  obtain rfl := Option.some.inj e
  exact ⟨_, rfl, hF, hc⟩

theorem one_setup {w w1 : World} {sb : Nat} (hs1 : StoreAt w1 (fun k => w.heap.size ≤ k) sb Sto.empty) (hf1 : Fr No w w1) :
    Calls Try.prog 38 #[.pointer (some ⟨sb, 0, none⟩), .agg #[.int .i64 1, .slice (some ⟨w1.heap.size + 1, 0, none⟩) 1 1]] ((w1.alloc (.cells #[.int .u8 49] 5 (1, 2))).alloc (.cells #[.string ⟨#[97]⟩, .slice (some ⟨w1.heap.size, 0, none⟩) 1 1, .bool false] 43))
      fun e w' => e = .returned (.int .i64 0) ∧ StoreAt w' (fun i => w.heap.size ≤ i) sb oneSto ∧ Fr No w w' := by
  obtain ⟨W, hW⟩ : ∃ W, W = (w1.alloc (.cells #[.int .u8 49] 5 (1, 2))).alloc (.cells #[.string keyA, .slice (some ⟨w1.heap.size, 0, none⟩) 1 1, .bool false] 43) := ⟨_, rfl⟩
  have hfW : Fr No w1 W := by rw [hW]; exact ((Fr.refl No w1).alloc _).alloc _
  have hRd : Rd tWr W (fun i => w1.heap.size ≤ i) (some ⟨w1.heap.size + 1, 0, none⟩) oneWr := by
    rw [hW]
    exact Rd.block (blk_two2 w1 _ _) (by show w1.heap.size ≤ _; omega) (Row.single (tWr_mk (A := some ⟨w1.heap.size, 0, none⟩) (c := 1) (r := [49]) (Nat.le_refl _) (Rd.block (blk_two1 w1 _ _) (Nat.le_refl _) ⟨[.int .u8 49], [], rfl, rfl, rfl⟩ (by simp)))) (by simp [oneWr])
  have hap := store_apply (w := W) (F := fun i => w.heap.size ≤ i ∧ i < w1.heap.size) (R := fun i => w1.heap.size ≤ i) (c := 1) 1 ((hs1.mono fun i hi hl => (⟨hi, hl⟩ : w.heap.size ≤ i ∧ i < w1.heap.size)).fr0 hfW) empty_small (by omega) hRd (fun i hi h => by have := h.2; omega) (by simp [oneWr]) (fun x hx => by
    obtain rfl : x = _ := by simpa [oneWr] using hx
    rw [show keyA.size = 1 from rfl]; omega)
  rw [one_apply] at hap
  show Calls _ _ _ ((w1.alloc (.cells #[.int .u8 49] 5 (1, 2))).alloc (.cells #[.string keyA, .slice (some ⟨w1.heap.size, 0, none⟩) 1 1, .bool false] 43)) _
  rw [← hW]
  refine hap.mono ?_
  rintro e w2 ⟨rfl, hs2, hf2⟩
  have z1 := hf1.size
  have z2 := hfW.size
  refine ⟨rfl, hs2.mono fun i hi _ => ?_, (hf1.trans (hfW.mono fun _ _ f => f.elim)).trans (hf2.mono fun i _ hi => .inr hi.1)⟩
  rcases hi with hi | hi
  · exact hi.1
  · omega

end Go.Proofs.Ytkcppngopdiljaa
/- Laws of layer 14 (tx): the document's example. -/
set_option linter.unusedVariables false
set_option linter.unusedSimpArgs false
namespace Go.Proofs.Ytkcppngopdiljaa
open Go.RowKit

theorem wrO_at {w : World} {F : Nat → Prop} {A : Option Addr} {ws : List Wr} (h : Rd tWrO w F A ws) {i : Nat} (hi : i < ws.length) :
    ∃ ad A' c', A = some ad ∧ w.cell? (ad.add (i * 3)) = some (.string ws[i].key) ∧ w.cell? ⟨(ad.add (i * 3)).block, (ad.add (i * 3)).off + 1, none⟩ = some (.slice A' ws[i].row.length c') ∧
      w.cell? ⟨(ad.add (i * 3)).block, (ad.add (i * 3)).off + 2, none⟩ = some (.bool ws[i].gone) ∧ Ow Ty.u8 5 w F (.slice A' ws[i].row.length c') ws[i].row := by
  obtain ⟨ad, cs, e, hk, e0, e1⟩ := h.get' hi (by decide)
  obtain ⟨A', c', rfl, h1⟩ := tWrO_open hk
  exact ⟨ad, A', c', e, e0 _ rfl, e1 1 _ (by decide) rfl, e1 2 _ (by decide) rfl, h1⟩

theorem both_put : wwrite [] ⟨keyA, [49], false⟩ = ([⟨keyA, [49], false⟩], 0) := rfl
theorem both_del : wwrite [⟨keyA, [49], false⟩] ⟨keyA, [], true⟩ = ([⟨keyA, [], true⟩], 0) := by
  have hf : wfind keyA [⟨keyA, [49], false⟩] = some ⟨keyA, [49], false⟩ := by unfold wfind; simp
  unfold wwrite
  rw [hf, if_neg (by simp)]
  unfold wput
  rw [if_neg (by rw [kl_irrefl]; simp), if_pos rfl]

set_option maxHeartbeats 1000000 in
set_option maxRecDepth 100000 in
theorem law_both (w : World) : Calls Try.prog 10 #[] w fun e w' => e = .returned (.bool true) ∧ Fr No w w' := by
  have kc := fun (w : World) (C : Array Value) (n c : Nat) => Lib.run_convert_bytes_const (P := Try.prog) w 27 5 C n c Try.underlying27 Try.underlying5
  go_enter Try.func10, Try.ntmps10
  go_wp2_with fail
  refine (tx_new 0 w).mono ?_
  rintro e1 w1 ⟨xb, rfl, ht1, hf1⟩
  obtain ⟨W, hW⟩ : ∃ W, W = w1.alloc (.cells #[.int .u8 49] 5 (1, 2)) := ⟨_, rfl⟩
  have hfW : Fr No w1 W := by rw [hW]; exact (Fr.refl No w1).alloc _
  have hRd : Rd Ty.u8 W (fun i => w1.heap.size ≤ i) (some ⟨w1.heap.size, 0, none⟩) [49] := by
    rw [hW]
    exact Rd.block (heap_alloc_new w1 _) (Nat.le_refl _) ⟨[.int .u8 49], [], rfl, rfl, rfl⟩ (by simp)
  have hput := tx_put (n := 1) (c := 1) keyA (ht1.fr0 hfW) hRd (by simp) rfl (by simp)
  rw [both_put] at hput
  have HP := Lib.hid (And.intro hput (And.intro hf1 hfW))
  clear hput hRd ht1 hf1 hfW
  go_wp2_with fail
  change Calls _ _ #[_, .string keyA, _] (w1.alloc (.cells #[.int .u8 49] 5 (1, 2))) _
  rw [← hW]
  clear hW
  refine HP.out.1.mono ?_
  rintro e2 w2 ⟨rfl, ht2, hf2⟩
  have hfw2 : Fr No w w2 := (HP.out.2.1.trans (HP.out.2.2.mono fun _ _ f => f.elim)).trans (hf2.mono fun i _ hi => .inr hi)
  have hw1 := HP.out.2.1.size
  have hW1 := HP.out.2.2.size
  have hdel := tx_del keyA (ht2.mono (F' := fun i => w.heap.size ≤ i) fun i hi _ => by
    rcases hi with hi | hi
    · exact hi
    · show w.heap.size ≤ i; omega) (by simp)
  rw [both_del] at hdel
  have HD := Lib.hid (And.intro hdel hfw2)
  clear hdel ht2 hf2 hfw2
  go_wp2_with fail
  change Calls _ _ #[_, .string keyA] _ _
  refine HD.out.1.mono ?_
  rintro e3 w3 ⟨rfl, ht3, hf3⟩
  have hfw3 : Fr No w w3 := HD.out.2.trans (hf3.mono fun i _ hi => .inr hi)
  have hwr := tx_writes ht3 (by simp) (fun x hx => by obtain rfl := List.mem_singleton.1 hx; exact ⟨by show (1 : Nat) ≤ _; omega, by simp⟩)
  have HW := Lib.hid (And.intro hwr hfw3)
  clear hwr ht3 hf3 hfw3
  go_wp2_with fail
  refine HW.out.1.mono ?_
  rintro e4 w4 ⟨A4, c4, rfl, ho4, hf4⟩
  obtain ⟨ad, A', c', rfl, x0, x1, x2, _⟩ := wrO_at ho4.rd.2.2 (i := 0) (by simp)
  simp at x0 x1 x2
  have h0 : ad.add 0 = ad := by simp [Addr.add]
  rw [h0] at x0 x1 x2
  clear h0
  change _ = some (Value.string ⟨#[97]⟩) at x0
  have HF := Lib.hid (HW.out.2.trans (hf4.mono fun _ _ f => f.elim))
  clear ho4 hf4
  go_wp2_with fail
  go_ret
  exact ⟨rfl, HF.out⟩
end Go.Proofs.Ytkcppngopdiljaa
/- Reference 6 (record): Right. -/
set_option linter.unusedVariables false
set_option linter.unusedSimpArgs false
namespace Go.Proofs.Ytkcppngopdiljaa
open Go.RowKit

theorem kl_empty (k : ByteArray) : kl ⟨#[]⟩ k = decide (1 ≤ k.size) := by
  rw [kl_eq, toList_data, toList_data]
  cases k with
  | mk d => cases d with
    | mk l => cases l with
      | nil => rfl
      | cons x l =>
        rw [Bool.eq_iff_iff]
        constructor
        · intro _; exact decide_eq_true (by show 1 ≤ l.length + 1; omega)
        · intro _; exact decide_eq_true (List.nil_lt_cons _ _)

set_option maxHeartbeats 4000000 in
set_option maxRecDepth 100000 in
theorem ref_right {w : World} {F : Nat → Prop} (n : Int) (A : Option Addr) (c : Nat) (ws : List Wr) (h : Rd tWr w F A ws) (hl : ws.length ≤ 1000000000) (hk : ∀ x ∈ ws, x.key.size ≤ 9223372036854775807) :
    Calls Try.prog 60 #[.agg #[.int .i64 n, .slice A ws.length c]] w fun e w' => e = .returned (.bool (right n ws)) ∧ Fr No w w' := by
  have hlI : (ws.length : Int) ≤ 1000000000 := by omega
  by_cases h1 : 1 ≤ n
  · by_cases h2 : (1 : Int) ≤ (ws.length : Int)
    · by_cases h3 : (ws.length : Int) ≤ 64
      · have H := Lib.hid (And.intro h hk)
        clear h hk
        go_enter Try.func60, Try.ntmps60
        go_wp2
        go_loopw [3] (fun i wr => ∃ k : Nat, k ≤ ws.length ∧ i = .int .i64 k ∧ Hid (allFit ⟨#[]⟩ (ws.take k) = true) ∧ Hid (Fr No (w.alloc (.cells #[.int .i64 n, .slice A ws.length c] 40)) wr)) (fun i _ => ws.length - (intOf i).toNat)
        case atStart => exact ⟨0, Nat.zero_le _, rfl, rfl, Fr.refl _ _⟩
        case round =>
          obtain ⟨k, hkl, rfl, hA, hf⟩ := hrel
          have hb := hf.out.blk (heap_alloc_new w (.cells #[.int .i64 n, .slice A ws.length c] 40)) (fun f => f)
          have b0 := blk_cell hb 0
          have b1 := blk_cell hb 1
          simp at b0 b1
          have hfw : Fr No w wr := ((Fr.refl No w).alloc _).trans (hf.out.mono fun _ _ f => f.elim)
          have hq0 : (0 : Int) ≤ (k : Int) := Int.natCast_nonneg _
          by_cases hlt : k < ws.length
          · obtain ⟨ad, A', c', rfl, x0, x1, x2, hc', hrd⟩ := wr_at (H.out.1.fr0 hfw) hlt
            have hq1 : (k : Int) < (ws.length : Int) := by omega
            have hfit := allFit_take (last := ⟨#[]⟩) hlt
            rw [hA.out, Bool.true_and] at hfit
            have hks := H.out.2 _ (List.getElem_mem hlt)
            have hrs : ws[k].row.length ≤ 9223372036854775807 := hrd.1
            have hno : fits ws[k] (lastKey ⟨#[]⟩ (ws.take k)) = false → right n ws = false := fun hfx => by
              have : allFit ⟨#[]⟩ ws = false := by
                cases hA : allFit ⟨#[]⟩ ws with
                | false => rfl
                | true => have := allFit_prefix (k + 1) hA; rw [hfit, hfx] at this; cases this
              unfold right
              rw [this]; rfl
            obtain ⟨x, hx⟩ : ∃ x, ws[k] = x := ⟨_, rfl⟩
            rw [hx] at x0 x1 x2 hfit hks hno hrs hrd
            obtain ⟨W, hW⟩ : ∃ W, W = wr.alloc (.cells #[.string x.key, .slice A' x.row.length c', .bool x.gone] 43) := ⟨_, rfl⟩
            have hfW : Fr No wr W := by rw [hW]; exact (Fr.refl No wr).alloc _
            have hbW : W.heap[wr.heap.size]? = some (.cells #[.string x.key, .slice A' x.row.length c', .bool x.gone] 43 (0, 0)) := by rw [hW]; exact heap_alloc_new wr _
            have e0 := blk_cell hbW 0
            have e1 := blk_cell hbW 1
            have e2 := blk_cell hbW 2
            simp at e0 e1 e2
            have g1 : W.cell? ⟨w.heap.size, 1, none⟩ = some (.slice (some ad) ws.length c) := hfW.cell b1 (fun f => f)
            have hfr2 : Fr No (w.alloc (.cells #[.int .i64 n, .slice (some ad) ws.length c] 40)) W := hf.out.trans (hfW.mono fun _ _ f => f.elim)
            have hprev : ∀ j, k = j + 1 → W.cell? (ad.add (j * 3)) = some (.string (lastKey ⟨#[]⟩ (ws.take k))) := by
              rintro j rfl
              obtain ⟨ad2, A2, c2, e, y0, _⟩ := wr_at (H.out.1.fr0 hfw) (i := j) (by omega)
              obtain rfl := Option.some.inj e
              rw [lastKey_take (by omega)]
              exact hfW.cell y0 (fun f => f)
            have HX := Lib.hid (And.intro hfit (And.intro hno (And.intro hfr2 (hfw.trans (hfW.mono fun _ _ f => f.elim)))))
            have HP := Lib.hid hprev
            clear hfit hno hfr2 hx hbW hfW hprev hc' hrd hb
            obtain ⟨lk, hlk⟩ : ∃ lk, lastKey ⟨#[]⟩ (ws.take k) = lk := ⟨_, rfl⟩
            have hl0 : k = 0 → lk = ⟨#[]⟩ := by rintro rfl; rw [← hlk]; rfl
            rw [hlk] at HX HP
            clear hlk
            have z0 : (0 : Int) ≤ (x.key.size : Int) := Int.natCast_nonneg _
            have z1 : (0 : Int) ≤ (x.row.length : Int) := Int.natCast_nonneg _
            by_cases q1 : x.key.size < 1
            · have c1 : decide ((x.key.size : Int) < 1) = true := decide_eq_true (by omega)
              have HF := Lib.hid (HX.out.2.1 (by unfold fits; rw [decide_eq_false (show ¬ 1 ≤ x.key.size by omega)]; rfl))
              go_wp2
              rw [← hW]
              clear hW
              go_quiet (fail)
              go_wp2
              go_ret
              exact ⟨by rw [HF.out]; rfl, HX.out.2.2.2.drewN _⟩
            have c1 : decide ((x.key.size : Int) < 1) = false := decide_eq_false (by omega)
            by_cases q2 : 4000 < x.key.size
            · have c2 : decide ((4000 : Int) < (x.key.size : Int)) = true := decide_eq_true (by omega)
              have HF := Lib.hid (HX.out.2.1 (by unfold fits; rw [decide_eq_false (show ¬ x.key.size ≤ 4000 by omega)]; simp))
              go_wp2
              rw [← hW]
              clear hW
              go_quiet (fail)
              go_wp2
              go_ret
              exact ⟨by rw [HF.out]; rfl, HX.out.2.2.2.drewN _⟩
            have c2 : decide ((4000 : Int) < (x.key.size : Int)) = false := decide_eq_false (by omega)
            by_cases q3 : 4000 < x.row.length
            · have c3 : decide ((4000 : Int) < (x.row.length : Int)) = true := decide_eq_true (by omega)
              have HF := Lib.hid (HX.out.2.1 (by unfold fits; rw [decide_eq_false (show ¬ x.row.length ≤ 4000 by omega)]; simp))
              go_wp2
              rw [← hW]
              clear hW
              go_quiet (fail)
              go_wp2
              go_ret
              exact ⟨by rw [HF.out]; rfl, HX.out.2.2.2.drewN _⟩
            have c3 : decide ((4000 : Int) < (x.row.length : Int)) = false := decide_eq_false (by omega)
            cases hg : x.gone
            · rw [hg] at e2 hW x2
              rcases Nat.eq_zero_or_pos k with k0 | k0
              · have c5 : decide ((0 : Int) < (k : Int)) = false := decide_eq_false (by omega)
                have c7 : decide (0 < k) = false := decide_eq_false (by omega)
                have c8 : ¬ 0 < k := by omega
                have hlE := hl0 k0
                clear k0 hl0
                have HF : Hid (fits x lk = true) := by show _ = _; unfold fits; rw [decide_eq_true (show 1 ≤ x.key.size by omega), decide_eq_true (show x.key.size ≤ 4000 by omega), decide_eq_true (show x.row.length ≤ 4000 by omega), hlE, kl_empty, decide_eq_true (show 1 ≤ x.key.size by omega), hg]; simp
                go_wp2
                rw [← hW]
                clear hW
                go_quiet (fail)
                go_wp2
                go_roundw
                case rel => exact ⟨k + 1, by omega, by go_num, by show _ = _; rw [HX.out.1]; exact HF.out, HX.out.2.2.1.drewN _⟩
                case measure => simp [intOf]; omega
              · obtain ⟨j, rfl⟩ : ∃ j, k = j + 1 := ⟨k - 1, by omega⟩
                have c5 : decide ((0 : Int) < ((j + 1 : Nat) : Int)) = true := decide_eq_true (by omega)
                have c6 : decide ((0 : Int) < (j : Int) + 1) = true := decide_eq_true (by omega)
                have y0 := HP.out j rfl
                have j0 : (0 : Int) ≤ (j : Int) := Int.natCast_nonneg _
                have j1 : (j : Int) < (ws.length : Int) := by omega
                have j2 : IntKind.i64.wrap (j : Int) = (j : Int) := IntWalk.i64_in _ (by omega)
                have j3 : j < ws.length := by omega
                have hkl := kl_not x.key lk
                cases h5 : Op.bytesLess x.key.toList lk.toList <;> cases h6 : (x.key.toList == lk.toList)
                case false.false =>
                  rw [h5, h6] at hkl
                  have HF : Hid (fits x lk = true) := by show _ = _; unfold fits; rw [decide_eq_true (show 1 ≤ x.key.size by omega), decide_eq_true (show x.key.size ≤ 4000 by omega), decide_eq_true (show x.row.length ≤ 4000 by omega), ← hkl, hg]; simp
                  go_wp2
                  rw [← hW]
                  clear hW
                  go_quiet (fail)
                  go_wp2
                  go_roundw
                  case rel => exact ⟨j + 1 + 1, by omega, by go_num, by show _ = _; rw [HX.out.1]; exact HF.out, HX.out.2.2.1.drewN _⟩
                  case measure => simp [intOf]; omega
                all_goals
                  rw [h5, h6] at hkl
                  have HF := Lib.hid (HX.out.2.1 (by unfold fits; rw [← hkl]; simp))
                  go_wp2
                  rw [← hW]
                  clear hW
                  go_quiet (fail)
                  go_wp2
                  go_ret
                  exact ⟨by rw [HF.out]; rfl, HX.out.2.2.2.drewN _⟩
            · rw [hg] at e2 hW x2
              by_cases q4 : 0 < x.row.length
              · have c4 : decide ((0 : Int) < (x.row.length : Int)) = true := decide_eq_true (by omega)
                have HF := Lib.hid (HX.out.2.1 (by unfold fits; rw [hg, decide_eq_false (show ¬ x.row.length = 0 by omega)]; simp))
                go_wp2
                rw [← hW]
                clear hW
                go_quiet (fail)
                go_wp2
                go_ret
                exact ⟨by rw [HF.out]; rfl, HX.out.2.2.2.drewN _⟩
              have c4 : decide ((0 : Int) < (x.row.length : Int)) = false := decide_eq_false (by omega)
              rcases Nat.eq_zero_or_pos k with k0 | k0
              · have c5 : decide ((0 : Int) < (k : Int)) = false := decide_eq_false (by omega)
                have c7 : decide (0 < k) = false := decide_eq_false (by omega)
                have c8 : ¬ 0 < k := by omega
                have hlE := hl0 k0
                clear k0 hl0
                have HF : Hid (fits x lk = true) := by show _ = _; unfold fits; rw [decide_eq_true (show 1 ≤ x.key.size by omega), decide_eq_true (show x.key.size ≤ 4000 by omega), decide_eq_true (show x.row.length ≤ 4000 by omega), hlE, kl_empty, decide_eq_true (show 1 ≤ x.key.size by omega), hg, decide_eq_true (show x.row.length = 0 by omega)]; simp
                go_wp2
                rw [← hW]
                clear hW
                go_quiet (fail)
                go_wp2
                go_roundw
                case rel => exact ⟨k + 1, by omega, by go_num, by show _ = _; rw [HX.out.1]; exact HF.out, HX.out.2.2.1.drewN _⟩
                case measure => simp [intOf]; omega
              · obtain ⟨j, rfl⟩ : ∃ j, k = j + 1 := ⟨k - 1, by omega⟩
                have c5 : decide ((0 : Int) < ((j + 1 : Nat) : Int)) = true := decide_eq_true (by omega)
                have c6 : decide ((0 : Int) < (j : Int) + 1) = true := decide_eq_true (by omega)
                have y0 := HP.out j rfl
                have j0 : (0 : Int) ≤ (j : Int) := Int.natCast_nonneg _
                have j1 : (j : Int) < (ws.length : Int) := by omega
                have j2 : IntKind.i64.wrap (j : Int) = (j : Int) := IntWalk.i64_in _ (by omega)
                have j3 : j < ws.length := by omega
                have hkl := kl_not x.key lk
                cases h5 : Op.bytesLess x.key.toList lk.toList <;> cases h6 : (x.key.toList == lk.toList)
                case false.false =>
                  rw [h5, h6] at hkl
                  have HF : Hid (fits x lk = true) := by show _ = _; unfold fits; rw [decide_eq_true (show 1 ≤ x.key.size by omega), decide_eq_true (show x.key.size ≤ 4000 by omega), decide_eq_true (show x.row.length ≤ 4000 by omega), ← hkl, hg, decide_eq_true (show x.row.length = 0 by omega)]; simp
                  go_wp2
                  rw [← hW]
                  clear hW
                  go_quiet (fail)
                  go_wp2
                  go_roundw
                  case rel => exact ⟨j + 1 + 1, by omega, by go_num, by show _ = _; rw [HX.out.1]; exact HF.out, HX.out.2.2.1.drewN _⟩
                  case measure => simp [intOf]; omega
                all_goals
                  rw [h5, h6] at hkl
                  have HF := Lib.hid (HX.out.2.1 (by unfold fits; rw [← hkl]; simp))
                  go_wp2
                  rw [← hW]
                  clear hW
                  go_quiet (fail)
                  go_wp2
                  go_ret
                  exact ⟨by rw [HF.out]; rfl, HX.out.2.2.2.drewN _⟩
          · obtain rfl : k = ws.length := by omega
            rw [List.take_length] at hA
            have hr : right n ws = true := by
              unfold right
              rw [hA.out, decide_eq_true h1, decide_eq_true (show 1 ≤ ws.length by omega), decide_eq_true (show ws.length ≤ 64 by omega)]; rfl
            have HR := Lib.hid hr
            clear hr
            go_wp2
            go_ret
            exact ⟨by rw [HR.out]; rfl, hfw⟩
      · have hr : right n ws = false := by
          unfold right
          rw [decide_eq_false (show ¬ ws.length ≤ 64 by omega)]; simp
        rw [hr]
        go_enter Try.func60, Try.ntmps60
        go_wp2
        go_ret
        exact ⟨rfl, (Fr.refl No w).alloc _⟩
    · have hr : right n ws = false := by
        unfold right
        rw [decide_eq_false (show ¬ 1 ≤ ws.length by omega)]; simp
      rw [hr]
      go_enter Try.func60, Try.ntmps60
      go_wp2
      go_ret
      exact ⟨rfl, (Fr.refl No w).alloc _⟩
  · have hr : right n ws = false := by
      unfold right
      rw [decide_eq_false h1]; simp
    rw [hr]
    go_enter Try.func60, Try.ntmps60
    go_wp2
    go_ret
    exact ⟨rfl, (Fr.refl No w).alloc _⟩
end Go.Proofs.Ytkcppngopdiljaa
/- Reference 12 (chain): seen, Get, Put, Trim. -/
set_option linter.unusedVariables false
set_option linter.unusedSimpArgs false
namespace Go.Proofs.Ytkcppngopdiljaa
open Go.RowKit

/-- A chain as a value. -/
def tChn : Ty Chn := Ty.iso (Ty.pair (Ty.slice tVer) (Ty.int .i64)) fun c => (c.l, c.last)
theorem tChn_open {w : World} {F : Nat → Prop} {x : Chn} {cs : List Value} (h : tChn.K w F x cs) :
    ∃ A c, cs = [.slice A x.l.length c, .int .i64 x.last] ∧ x.l.length ≤ c ∧ Rd tVer w F A x.l := by
  obtain ⟨_, _, rfl, ⟨A, c, rfl, h1, h2⟩, rfl⟩ := h
  exact ⟨A, c, rfl, h1, h2⟩
theorem tChn_mk {w : World} {F : Nat → Prop} {l : List Ver} {n : Int} {A : Option Addr} {c : Nat} (h1 : l.length ≤ c) (h2 : Rd tVer w F A l) : tChn.K w F ⟨l, n⟩ [.slice A l.length c, .int .i64 n] :=
  ⟨[_], [_], rfl, ⟨A, c, rfl, h1, h2⟩, rfl⟩
theorem ver_at {w : World} {F : Nat → Prop} {A : Option Addr} {l : List Ver} (h : Rd tVer w F A l) {i : Nat} (hi : i < l.length) :
    ∃ ad A' c', A = some ad ∧ w.cell? (ad.add (i * 3)) = some (.int .i64 l[i].at_) ∧ w.cell? ⟨(ad.add (i * 3)).block, (ad.add (i * 3)).off + 1, none⟩ = some (.slice A' l[i].row.length c') ∧
      w.cell? ⟨(ad.add (i * 3)).block, (ad.add (i * 3)).off + 2, none⟩ = some (.bool l[i].gone) ∧ l[i].row.length ≤ c' ∧ Rd Ty.u8 w F A' l[i].row := by
  obtain ⟨ad, cs, e, hk, e0, e1⟩ := h.get' hi (by decide)
  obtain ⟨A', c', rfl, h1, h2⟩ := tVer_open hk
  exact ⟨ad, A', c', e, e0 _ rfl, e1 1 _ (by decide) rfl, e1 2 _ (by decide) rfl, h1, h2⟩

theorem seen_pre {c : Chn} (h : c.Ok) (a : Int) {i : Nat} (hi : i < c.l.length) : c.l[i].at_ ≤ a ↔ i < c.seen a := by
  have h1 := h.1
  unfold Chn.seen
  clear h
  generalize c.l = l at *
  induction l generalizing i with
  | nil => simp at hi
  | cons x l ih =>
    obtain ⟨hx, hl⟩ := List.pairwise_cons.1 h1
    by_cases hxa : x.at_ ≤ a
    · rw [List.takeWhile_cons_of_pos (by simpa using hxa)]
      cases i with
      | zero => simp [hxa]
      | succ i =>
        have := ih (i := i) (by simpa using hi) hl
        simpa using this
    · rw [List.takeWhile_cons_of_neg (by simpa using hxa)]
      cases i with
      | zero => simp; omega
      | succ i =>
        have hi' : i < l.length := by simpa using hi
        have := hx l[i] (List.getElem_mem _)
        simp
        omega

theorem ref_seen {w : World} {F : Nat → Prop} {A : Option Addr} {cp : Nat} {c : Chn} (a : Int) (h : Rd tVer w F A c.l) (ho : c.Ok) (hl : c.l.length ≤ 1000000000) :
    Calls Try.prog 86 #[.agg #[.slice A c.l.length cp, .int .i64 c.last], .int .i64 a] w fun e w' => e = .returned (.int .i64 (c.seen a - 1)) ∧ Fr No w w' := by
  have hle := seen_le c a
  have H := Lib.hid (And.intro h ho)
  clear h ho
  have hlI : (c.l.length : Int) ≤ 1000000000 := by omega
  go_enter Try.func86, Try.ntmps86
  go_wp2
  go_loopw [5, 6] (fun n i wr => ∃ k : Nat, k ≤ c.l.length ∧ i = .int .i64 k ∧ n = .int .i64 ((min k (c.seen a) : Nat) - 1 : Int) ∧ Hid (Fr No (w.alloc (.cells #[.slice A c.l.length cp, .int .i64 c.last] 119)) wr)) (fun _ i _ => c.l.length - (intOf i).toNat)
  case atStart => exact ⟨0, Nat.zero_le _, rfl, by simp, Fr.refl _ _⟩
  case round =>
    obtain ⟨k, hk, rfl, rfl, hf⟩ := hrel
    have b0 : wr.cell? ⟨w.heap.size, 0, none⟩ = some (.slice A c.l.length cp) := hf.out.cell (by simp) (fun f => f)
    by_cases hlt : k < c.l.length
    · obtain ⟨ad, A', c', rfl, x0, _, _, _, _⟩ := ver_at (H.out.1.fr0 (((Fr.refl No w).alloc _).trans (hf.out.mono fun _ _ f => f.elim))) hlt
      have hp := seen_pre H.out.2 a hlt
      have hk0 : (0 : Int) ≤ (k : Int) := Int.natCast_nonneg _
      have hk1 : (k : Int) < (c.l.length : Int) := by omega
      generalize c.l[k].at_ = y at *
      by_cases hy : y ≤ a
      · have : k < c.seen a := hp.1 hy
        clear hp
        go_wp2
        go_roundw
        case rel => exact ⟨k + 1, by omega, by go_num, by congr 1; omega, hf⟩
        case measure => simp [intOf]; omega
      · have : ¬ k < c.seen a := fun h => hy (hp.2 h)
        clear hp
        go_wp2
        go_roundw
        case rel => exact ⟨k + 1, by omega, by go_num, by congr 1; omega, hf⟩
        case measure => simp [intOf]; omega
    · obtain rfl : k = c.l.length := by omega
      go_wp2
      go_ret
      refine ⟨by rw [Nat.min_eq_right hle]; rfl, ((Fr.refl No w).alloc _).trans (hf.out.mono fun _ _ f => f.elim)⟩

theorem get_at {c : Chn} {a : Int} {i : Nat} (h : c.seen a = i + 1) (hi : i < c.l.length) : c.get a = if c.l[i].gone then none else some c.l[i].row := by
  unfold Chn.get; rw [h]; simp [hi]
theorem get_none {c : Chn} {a : Int} (h : c.seen a = 0) : c.get a = none := by unfold Chn.get; split <;> simp [h]
theorem cut_at {c : Chn} {a : Int} {i : Nat} (h : c.seen a = i + 1) (hi : i < c.l.length) : c.cut a = if c.l[i].gone then i + 1 else i := by
  unfold Chn.cut; rw [h]; simp [hi]
theorem cut_none {c : Chn} {a : Int} (h : c.seen a = 0) : c.cut a = 0 := by unfold Chn.cut; split <;> simp [h]

/-- A row, or none, as two results; it is read. -/
def RowRd (w' : World) (F : Nat → Prop) (e : Ending) (r : Option Bs) : Prop :=
  ∃ A1 c1, e = .returned (.tuple #[.slice A1 (r.getD []).length c1, .bool r.isSome]) ∧ (r.getD []).length ≤ c1 ∧ Rd Ty.u8 w' F A1 (r.getD [])

theorem ref_cget {w : World} {F : Nat → Prop} {A : Option Addr} {cp : Nat} {c : Chn} (a : Int) (h : Rd tVer w F A c.l) (ho : c.Ok) (hl : c.l.length ≤ 1000000000) :
    Calls Try.prog 70 #[.agg #[.slice A c.l.length cp, .int .i64 c.last], .int .i64 a] w fun e w' => RowRd w' F e (c.get a) ∧ Fr No w w' := by
  have hle := seen_le c a
  have hs := fun w' (f : Fr No w w') => ref_seen (w := w') (cp := cp) a (h.fr0 f) ho hl
  have hlI : (c.l.length : Int) ≤ 1000000000 := by omega
  by_cases h0 : c.seen a = 0
  · rw [get_none h0]
    have HS := Lib.hid hs
    clear hs h ho
    go_enter Try.func70, Try.ntmps70
    go_wp2_with (go_at_call 86; refine (HS.out _ ((Fr.refl No w).alloc _)).mono ?_; rintro e w1 ⟨rfl, hf⟩; rw [h0])
    go_ret2
    exact ⟨⟨none, 0, rfl, by simp, Rd.nil⟩, ((Fr.refl No w).alloc _).trans (hf.mono fun _ _ f => f.elim)⟩
  · obtain ⟨i, hie⟩ : ∃ i, c.seen a = i + 1 := ⟨c.seen a - 1, by omega⟩
    have hi : i < c.l.length := by omega
    rw [get_at hie hi]
    have H1 : ∀ w1, Fr No w w1 → ∃ ad A' c', A = some ad ∧ w1.cell? ⟨(ad.add (i * 3)).block, (ad.add (i * 3)).off + 1, none⟩ = some (.slice A' c.l[i].row.length c') ∧
        w1.cell? ⟨(ad.add (i * 3)).block, (ad.add (i * 3)).off + 2, none⟩ = some (.bool c.l[i].gone) ∧ c.l[i].row.length ≤ c' ∧ Rd Ty.u8 w1 F A' c.l[i].row := by
      intro w1 f
      obtain ⟨ad, A', c', e, _, h2⟩ := ver_at (h.fr0 f) hi
      exact ⟨ad, A', c', e, h2⟩
    have hi0 : (0 : Int) ≤ (i : Int) := Int.natCast_nonneg _
    have hi1 : (i : Int) < (c.l.length : Int) := by omega
    have hi2 : ((i + 1 : Nat) : Int) - 1 = (i : Int) := by omega
    have HS := Lib.hid (And.intro hs H1)
    clear hs h ho H1
    generalize c.l[i].gone = g at *
    generalize c.l[i].row = row at *
    generalize c.l.length = n at *
    cases g
    · go_enter Try.func70, Try.ntmps70
      go_wp2_with (go_at_call 86; refine (HS.out.1 _ ((Fr.refl No w).alloc _)).mono ?_; rintro e w1 ⟨rfl, hf⟩; rw [hie, hi2]
                   have hfw : Fr No w w1 := ((Fr.refl No w).alloc _).trans (hf.mono fun _ _ f => f.elim)
                   have b0 : w1.cell? ⟨w.heap.size, 0, none⟩ = some (.slice A n cp) := hf.cell (by simp) (fun f => f)
                   obtain ⟨ad, A', c', rfl, x1, x2, hc', hrd⟩ := HS.out.2 w1 hfw
                   have HF := Lib.hid (And.intro hfw (And.intro hc' hrd))
                   clear hfw hf hc' hrd)
      go_ret2
      exact ⟨⟨A', c', rfl, HF.out.2.1, HF.out.2.2⟩, HF.out.1⟩
    · go_enter Try.func70, Try.ntmps70
      go_wp2_with (go_at_call 86; refine (HS.out.1 _ ((Fr.refl No w).alloc _)).mono ?_; rintro e w1 ⟨rfl, hf⟩; rw [hie, hi2]
                   have hfw : Fr No w w1 := ((Fr.refl No w).alloc _).trans (hf.mono fun _ _ f => f.elim)
                   have b0 : w1.cell? ⟨w.heap.size, 0, none⟩ = some (.slice A n cp) := hf.cell (by simp) (fun f => f)
                   obtain ⟨ad, A', c', rfl, x1, x2, hc', hrd⟩ := HS.out.2 w1 hfw
                   have HF := Lib.hid hfw
                   clear hfw hf hc' hrd)
      go_ret2
      exact ⟨⟨none, 0, rfl, by simp, Rd.nil⟩, HF.out⟩
end Go.Proofs.Ytkcppngopdiljaa
/- Reference 12 (chain): Put, Trim. -/
set_option linter.unusedVariables false
set_option linter.unusedSimpArgs false
namespace Go.Proofs.Ytkcppngopdiljaa
open Go.RowKit

theorem info_rver : (Try.prog.info? 140).map (fun i => (i.zero, i.size, i.bytes)) = some (some (.agg #[.int .i64 0, .slice none 0 0, .bool false]), 3, 40) := by kernel_rfl

/-- A chain as a value. -/
def ChnVal (w : World) (F : Nat → Prop) (v : Value) (c : Chn) : Prop := ∃ A cp, v = .agg #[.slice A c.l.length cp, .int .i64 c.last] ∧ c.l.length ≤ cp ∧ Rd tVer w F A c.l

set_option maxHeartbeats 1000000 in
theorem ref_cput {w : World} {F R : Nat → Prop} {A B : Option Addr} {cp cr : Nat} {c : Chn} {row : Bs} (n : Int) (g : Bool) (h : Rd tVer w F A c.l) (hl : c.l.length ≤ 1000000000) (hr : Rd Ty.u8 w R B row) (hrl : row.length ≤ 1000000000) (hn : c.last < n) :
    Calls Try.prog 62 #[.agg #[.slice A c.l.length cp, .int .i64 c.last], .int .i64 n, .slice B row.length cr, .bool g] w fun e w' =>
      ∃ v, e = .returned (.tuple #[v, .int .i64 0]) ∧ ChnVal w' (fun i => F i ∨ w.heap.size ≤ i) v (c.put n row g) ∧ Fr No w w' := by
  have hj := fun w' (f : Fr No w w') => ref_join (c := cr) (d := 0) (hr.fr0 f) (Rd.nil (t := Ty.u8) (w := w') (F := R) (A := none)) (by simp; omega)
  simp only [List.append_nil, List.length_nil] at hj
  obtain ⟨cs, hR, hA⟩ := ((h.mono fun i hi hl => (⟨hi, hl⟩ : F i ∧ i < w.heap.size)).fr0 (((Fr.refl No w).alloc (.cells #[.slice A c.l.length cp, .int .i64 c.last] 119)).alloc (.cells #[.slice none 0 0, .int .i64 0] 119))).at
  have hR' : Row tVer _ (fun i => ((F i ∧ i < w.heap.size) ∨ w.heap.size + 2 ≤ i) ∧ (Value.slice none 0 0).ownBlock ≠ some i) c.l cs := hR.mono fun i hi _ => ⟨.inl hi, fun e => by simp [Value.ownBlock] at e⟩
  have H := Lib.hid (And.intro hj (And.intro hR' hA))
  clear hj hR hR' hA h hr
  go_enter Try.func62, Try.ntmps62
  go_wp2_with (first
    | (at_builtin; refine ow_append tVer (Ow.nil (F := fun i => (F i ∧ i < w.heap.size) ∨ w.heap.size + 2 ≤ i)) _ _ (.agg #[.int .i64 0, .slice none 0 0, .bool false]) 40 rfl rfl Try.underlying117 info_rver rfl (by decide) (by decide) rfl rfl rfl H.out.2.1 H.out.2.2 (by simp; omega) ?_; intro A1 c1 w1 hown1 hg hat
       simp only [List.length_nil, Nat.zero_add, List.nil_append] at hown1 ⊢
       have hfa : Fr No ((w.alloc (.cells #[.slice A c.l.length cp, .int .i64 c.last] 119)).alloc (.cells #[.slice none 0 0, .int .i64 0] 119)) w1 := (Fr.refl No _).grown hg fun k hk => by simp [Value.ownBlock] at hk
       have hf1 : Fr No w w1 := (((Fr.refl No w).alloc _).alloc _).trans (hfa.mono fun _ _ f => f.elim)
       have hb1 : w1.heap[w.heap.size + 1]? = some (.cells #[.slice none 0 0, .int .i64 0] 119 (0, 0)) := hfa.blk (by have := heap_alloc_new (w.alloc (.cells #[.slice A c.l.length cp, .int .i64 c.last] 119)) (.cells #[.slice none 0 0, .int .i64 0] 119); rwa [World.size_alloc] at this) (fun f => f)
       have hne : ∀ k, (Value.slice A1 c.l.length c1).ownBlock = some k → w.heap.size + 2 ≤ k := by
         intro k hk
         simp only [List.length_nil, Nat.zero_add] at hat
         rw [hk] at hat
         rcases hat with hat | hat
         · simp [Value.ownBlock] at hat
         · simp at hat; omega
       have hs1 : w.heap.size + 2 ≤ w1.heap.size := by have := hfa.size; simpa using this
       have H1 := Lib.hid (And.intro hown1 (And.intro hf1 (And.intro hb1 (And.intro hne hs1))))
       clear hfa hb1 hne hs1
       clear hown1 hg hat hf1)
    | (go_at_call 25; refine (H.out.1 _ H1.out.2.1).mono ?_; rintro e w2 ⟨A2, c2, rfl, ho2, hf2⟩
       have H2 := Lib.hid (And.intro ho2 hf2)
       clear ho2 hf2)
    | (at_builtin; refine ow_append tVer (ys := [⟨n, row, g⟩]) ((H1.out.1.fr0 H2.out.2).fr0 ((Fr.refl No w2).alloc _)) _ _ (.agg #[.int .i64 0, .slice none 0 0, .bool false]) 40 rfl rfl Try.underlying117 info_rver rfl (by decide) (by decide) rfl rfl rfl
         (Row.single (tVer_mk (A := A2) (c := c2) H2.out.1.rd.2.1 ((H2.out.1.rd.2.2.fr0 ((Fr.refl No w2).alloc _)).mono fun i hi hl => ?qf))) (At.block (heap_alloc_new _ _)) (by simp; omega) ?_
       case qf => exact ⟨.inl (.inr (by have := H1.out.2.2.2.2; have hi' : w1.heap.size ≤ i := hi; omega)), fun he => by have := (H1.out.1.own he).2; have hi' : w1.heap.size ≤ i := hi; omega⟩
       intro A3 c3 w3 hown3 hg3 hat3
       have hb3 : w3.heap[w.heap.size + 1]? = some (.cells #[.slice none 0 0, .int .i64 0] 119 (0, 0)) := ((Fr.refl (fun k => some k = (Value.slice A1 c.l.length c1).ownBlock) _).grown hg3 fun k hk => .inl hk.symm).blk (((Fr.refl No w2).alloc _).blk (H2.out.2.blk H1.out.2.2.1 (fun f => f)) (fun f => f)) (fun e => by have := H1.out.2.2.2.1 _ e.symm; omega)
       have k0 := blk_cell hb3 0
       have k1 := blk_cell hb3 1
       have z0 := blk_frozen hb3 0
       have z1 := blk_frozen hb3 1
       simp at k0 k1
       have hf3 : Fr No w w3 := ((H1.out.2.1.trans (H2.out.2.mono fun _ _ f => f.elim)).alloc _).grown hg3 fun k hk => .inr (by
         have := H1.out.2.2.2.1 _ hk
         omega)
       have H3 := Lib.hid (And.intro hown3 (And.intro hf3 hb3))
       clear hf3 hb3
       clear hown3 hg3 hat3))
  obtain ⟨hown3, hf3, hb3⟩ := H3.out
  have hn0 : ¬ ((((F (w.heap.size + 1) ∧ w.heap.size + 1 < w.heap.size) ∨ w.heap.size + 2 ≤ w.heap.size + 1) ∨ ((w.alloc (.cells #[.slice A c.l.length cp, .int .i64 c.last] 119)).alloc (.cells #[.slice none 0 0, .int .i64 0] 119)).heap.size ≤ w.heap.size + 1) ∨ (w2.alloc (.cells #[.int .i64 n, .slice A2 row.length c2, .bool g] 140)).heap.size ≤ w.heap.size + 1) := by
    have := H2.out.2.size
    have := H1.out.2.2.2.2
    simp
    omega
  have hown4 := (hown3.set ⟨w.heap.size + 1, 0, none⟩ hn0 (.slice A3 (c.l.length + 1) c3)).set ⟨w.heap.size + 1, 1, none⟩ hn0 (.int .i64 n)
  have hb4 := blk_set (blk_set hb3 0 (.slice A3 (c.l.length + 1) c3)) 1 (.int .i64 n)
  have d0 := blk_cell hb4 0
  have d1 := blk_cell hb4 1
  simp at d0 d1
  refine bodyPost_ret (v := .tuple #[.agg #[.slice A3 (c.l.length + 1) c3, .int .i64 n], .int .i64 0]) (by simp [results, Try.results62, go_sem, d0, d1]) rfl ⟨_, rfl, ⟨A3, c3, ?_, ?_, ?_⟩, (hf3.set _ (.inr (by simp)) _).set _ (.inr (by simp)) _⟩
  · show _ = Value.agg #[.slice A3 (c.l ++ [_]).length c3, _]
    rw [List.length_append]; rfl
  · have := hown4.rd
    exact Nat.le_trans (Nat.le_of_eq this.1.symm) this.2.1
  · refine hown4.rd.2.2.mono fun i hi _ => ?_
    have := H2.out.2.size
    have := H1.out.2.2.2.2
    rcases hi with ((hi | hi) | hi) | hi
    · exact .inl hi.1
    · exact .inr (by omega)
    · exact .inr (by simp at hi; omega)
    · exact .inr (by simp at hi; omega)

end Go.Proofs.Ytkcppngopdiljaa
/- Reference 13 (store): of, Get, Last, Len. -/
set_option linter.unusedVariables false
set_option linter.unusedSimpArgs false
namespace Go.Proofs.Ytkcppngopdiljaa
open Go.RowKit

/-- The document's store as a value. -/
def StoVal (w : World) (F : Nat → Prop) (v : Value) (s : Sto) : Prop :=
  ∃ A c B d, v = .agg #[.slice A s.kc.length c, .slice B s.kc.length d, .int .i64 s.now] ∧ s.kc.length ≤ c ∧ s.kc.length ≤ d ∧ Rd Ty.str w F A (s.kc.map Prod.fst) ∧ Rd tChn w F B (s.kc.map Prod.snd)
theorem StoVal.fr {S F : Nat → Prop} {w w' : World} {v : Value} {s : Sto} (h : StoVal w F v s) (f : Fr S w w') (hd : ∀ k, F k → ¬ S k) : StoVal w' F v s := by
  obtain ⟨A, c, B, d, e, h1, h2, h3, h4⟩ := h
  exact ⟨A, c, B, d, e, h1, h2, h3.fr f hd, h4.fr f hd⟩
theorem StoVal.fr0 {F : Nat → Prop} {w w' : World} {v : Value} {s : Sto} (h : StoVal w F v s) (f : Fr No w w') : StoVal w' F v s := h.fr f fun _ _ f => f
theorem StoVal.mono {F G : Nat → Prop} {w : World} {v : Value} {s : Sto} (h : StoVal w F v s) (k : ∀ k, F k → k < w.heap.size → G k) : StoVal w G v s := by
  obtain ⟨A, c, B, d, e, h1, h2, h3, h4⟩ := h
  exact ⟨A, c, B, d, e, h1, h2, h3.mono k, h4.mono k⟩
/-- What holds of each store of the document. -/
structure Sto.Fine (s : Sto) (m : Nat) : Prop where
  small : s.Small m
  rising : Rising (s.kc.map Prod.fst)
  oks : ∀ p ∈ s.kc, p.2.Ok
theorem Sto.Fine.ok {s : Sto} {m : Nat} (h : s.Fine m) (k : ByteArray) : (s.of k).Ok ∧ (s.of k).l.length ≤ m ∧ (∀ v ∈ (s.of k).l, v.row.length ≤ 4000) := by
  unfold Sto.of
  cases hl : look k s.kc with
  | none => exact ⟨⟨List.Pairwise.nil, fun v hv => by cases hv⟩, Nat.zero_le _, fun v hv => by cases hv⟩
  | some c => have := h.small.chains _ (look_mem hl); exact ⟨h.oks _ (look_mem hl), this.1, this.2.2⟩

theorem chn_at {w : World} {F : Nat → Prop} {A : Option Addr} {l : List Chn} (h : Rd tChn w F A l) {i : Nat} (hi : i < l.length) :
    ∃ ad A' c', A = some ad ∧ w.cell? (ad.add (i * 2)) = some (.slice A' l[i].l.length c') ∧ w.cell? ⟨(ad.add (i * 2)).block, (ad.add (i * 2)).off + 1, none⟩ = some (.int .i64 l[i].last) ∧
      l[i].l.length ≤ c' ∧ Rd tVer w F A' l[i].l := by
  obtain ⟨ad, cs, e, hk, e0, e1⟩ := h.get' hi (by decide)
  obtain ⟨A', c', rfl, h1, h2⟩ := tChn_open hk
  exact ⟨ad, A', c', e, e0 _ rfl, e1 1 _ (by decide) rfl, h1, h2⟩

theorem ref_of {w : World} {F : Nat → Prop} {v : Value} {s : Sto} (key : ByteArray) (h : StoVal w F v s) (hl : s.kc.length ≤ 1000000000) (hr : Rising (s.kc.map Prod.fst)) :
    Calls Try.prog 61 #[v, .string key] w fun e w' => ∃ u, e = .returned u ∧ ChnVal w' F u (s.of key) ∧ Fr No w w' := by
  obtain ⟨A, c, B, d, rfl, h1, h2, h3, h4⟩ := h
  obtain ⟨W, hW⟩ : ∃ W, W = (w.alloc (.cells #[.slice A s.kc.length c, .slice B s.kc.length d, .int .i64 s.now] 55)).alloc (.cells #[.slice none 0 0, .int .i64 0] 119) := ⟨_, rfl⟩
  have hb : W.heap[w.heap.size]? = some (.cells #[.slice A s.kc.length c, .slice B s.kc.length d, .int .i64 s.now] 55 (0, 0)) := by rw [hW]; exact blk_two1 ..
  have hk : W.heap[w.heap.size + 1]? = some (.cells #[.slice none 0 0, .int .i64 0] 119 (0, 0)) := by rw [hW]; exact blk_two2 ..
  have b0 := blk_cell hb 0
  have b1 := blk_cell hb 1
  have k0 := blk_cell hk 0
  have k1 := blk_cell hk 1
  have z0 := blk_frozen hk 0
  have z1 := blk_frozen hk 1
  simp at b0 b1 k0 k1
  have hf : Fr No w W := by rw [hW]; exact ((Fr.refl No w).alloc _).alloc _
  have H := Lib.hid (And.intro (h3.fr0 hf) (And.intro ((h4.mono fun i hi hl => (⟨hi, hl⟩ : F i ∧ i < w.heap.size)).fr0 hf) (And.intro hk (And.intro hf hr))))
  clear h1 h2 h3 h4 hb hk hf hr
  have hlI : (s.kc.length : Int) ≤ 1000000000 := by omega
  go_enter Try.func61, Try.ntmps61
  go_wp2
  rw [← hW]
  clear hW
  go_loopw [5] (fun i wr => ∃ k : Nat, k ≤ s.kc.length ∧ i = .int .i64 k ∧ Hid (∀ j (h : j < s.kc.length), j < k → s.kc[j].1 ≠ key) ∧ wr = W) (fun i _ => s.kc.length - (intOf i).toNat)
  case atStart => exact ⟨0, Nat.zero_le _, rfl, fun j _ h => by omega, rfl⟩
  case round =>
    obtain ⟨k, hk, rfl, hno, rfl⟩ := hrel
    by_cases hlt : k < s.kc.length
    · obtain ⟨ad, rfl, x0⟩ := str_at H.out.1 (i := k) (by simpa using hlt)
      obtain ⟨ad2, A', c', rfl, y0, y1, hc', hrd⟩ := chn_at H.out.2.1 (i := k) (by simpa using hlt)
      rw [List.getElem_map] at x0
      simp only [List.getElem_map] at y0 y1 hc' hrd
      have hq0 : (0 : Int) ≤ (k : Int) := Int.natCast_nonneg _
      have hq1 : (k : Int) < (s.kc.length : Int) := by omega
      have hmem : s.kc[k] ∈ s.kc := List.getElem_mem _
      have hlook := look_of_mem (k := s.kc[k].1) (v := s.kc[k].2) H.out.2.2.2.2.nodup hmem
      have hstep : s.kc[k].1 ≠ key → ∀ j (h : j < s.kc.length), j < k + 1 → s.kc[j].1 ≠ key := fun hne j h hj => by
        rcases Nat.lt_or_ge j k with h' | h'
        · exact hno.out j h h'
        · obtain rfl : j = k := by omega
          exact hne
      have HL := Lib.hid (And.intro hlook (And.intro hstep (And.intro hc' hrd)))
      clear hlook hstep hmem hc' hrd
      generalize s.kc[k].1 = ky at *
      generalize s.kc[k].2 = ch at *
      cases hb : (ky.toList == key.toList)
      · go_wp2
        go_roundw
        case rel => exact ⟨k + 1, by omega, by go_num, HL.out.2.1 (by rw [beq_toList] at hb; simpa using hb), by first | rfl | trivial⟩
        case measure => simp [intOf]; omega
      · obtain rfl : ky = key := by rw [beq_toList] at hb; simpa using hb
        go_wp2
        obtain ⟨hc', hrd⟩ := HL.out.2.2
        have hb4 := blk_set (blk_set H.out.2.2.1 0 (.slice A' ch.l.length c')) 1 (.int .i64 ch.last)
        have d0 := blk_cell hb4 0
        have d1 := blk_cell hb4 1
        simp at d0 d1
        have hr := ((hrd.set2 ⟨w.heap.size + 1, 0, none⟩ (fun h => absurd h.2 (by simp)) (.slice A' ch.l.length c')).set2 ⟨w.heap.size + 1, 1, none⟩ (fun h => absurd h.2 (by simp)) (.int .i64 ch.last)).mono fun i hi _ => hi.1
        refine bodyPost_ret (v := .agg #[.slice A' ch.l.length c', .int .i64 ch.last]) (by simp [results, Try.results61, go_sem, d0, d1]) rfl ⟨_, rfl, ?_, (H.out.2.2.2.1.set _ (.inr (by simp)) _).set _ (.inr (by simp)) _⟩
        unfold Sto.of
        rw [HL.out.1]
        exact ⟨A', c', rfl, hc', hr⟩
    · obtain rfl : k = s.kc.length := by omega
      have hnone : look key s.kc = none := look_none_iff.2 fun hm => by
        obtain ⟨p, hp, e⟩ := List.mem_map.1 hm
        obtain ⟨j, hj, rfl⟩ := List.getElem_of_mem hp
        exact hno.out j hj hj e
      have HN := Lib.hid hnone
      clear hnone
      go_wp2
      have hb4 := blk_set (blk_set H.out.2.2.1 0 (.slice none 0 0)) 1 (.int .i64 0)
      have d0 := blk_cell hb4 0
      have d1 := blk_cell hb4 1
      simp at d0 d1
      refine bodyPost_ret (v := .agg #[.slice none 0 0, .int .i64 0]) (by simp [results, Try.results61, go_sem, d0, d1]) rfl ⟨_, rfl, ?_, (H.out.2.2.2.1.set _ (.inr (by simp)) _).set _ (.inr (by simp)) _⟩
      unfold Sto.of
      rw [HN.out]
      exact ⟨none, 0, rfl, Nat.le_refl _, Rd.nil⟩
end Go.Proofs.Ytkcppngopdiljaa
/- Reference 13 (store): Get, Last, Len, Scan. -/
set_option linter.unusedVariables false
set_option linter.unusedSimpArgs false
namespace Go.Proofs.Ytkcppngopdiljaa
open Go.RowKit

set_option maxRecDepth 100000 in
theorem ref_get {w : World} {F : Nat → Prop} {v : Value} {s : Sto} {m : Nat} (a : Int) (key : ByteArray) (h : StoVal w F v s) (hs : s.Fine m) (hm : m ≤ 100000000) :
    Calls Try.prog 50 #[v, .int .i64 a, .string key] w fun e w' => RowRd w' F e (s.get a key) ∧ Fr No w w' := by
  have hof := fun w' (f : Fr No w w') => ref_of key (h.fr0 f) (by have := hs.small.keys; omega) hs.rising
  have hcg := fun w' A cp (h' : Rd tVer w' F A (s.of key).l) => ref_cget (w := w') (cp := cp) a h' (hs.ok key).1 (by have := (hs.ok key).2.1; omega)
  obtain ⟨A, c, B, d, rfl, _⟩ := h
  have H := Lib.hid (And.intro hof hcg)
  clear hof hcg hs
  go_enter Try.func50, Try.ntmps50
  go_wp2_with (first
    | (go_at_call 61; refine (H.out.1 _ ((Fr.refl No w).alloc _)).mono ?_; rintro e w1 ⟨u, rfl, ⟨A1, c1, rfl, hc1, hr1⟩, hf1⟩; have H1 := Lib.hid (And.intro hr1 hf1); clear hr1 hf1 hc1)
    | (go_at_call 70; refine (H.out.2 _ _ _ H1.out.1).mono ?_; rintro e w2 ⟨⟨A2, c2, rfl, hc2, hr2⟩, hf2⟩; have H2 := Lib.hid (And.intro hc2 (And.intro hr2 hf2)); clear hc2 hr2 hf2))
  go_ret2
  exact ⟨⟨A2, c2, rfl, H2.out.1, H2.out.2.1⟩, (((Fr.refl No w).alloc _).trans (H1.out.2.mono fun _ _ f => f.elim)).trans (H2.out.2.2.mono fun _ _ f => f.elim)⟩

set_option maxRecDepth 100000 in
theorem ref_last {w : World} {F : Nat → Prop} {v : Value} {s : Sto} {m : Nat} (key : ByteArray) (h : StoVal w F v s) (hs : s.Fine m) (hm : m ≤ 100000000) :
    Calls Try.prog 43 #[v, .string key] w fun e w' => e = .returned (.int .i64 (s.last key)) ∧ Fr No w w' := by
  have hof := fun w' (f : Fr No w w') => ref_of key (h.fr0 f) (by have := hs.small.keys; omega) hs.rising
  obtain ⟨A, c, B, d, rfl, _⟩ := h
  have H := Lib.hid hof
  clear hof hs
  have hfd : ∀ (w : World) (A : Option Addr) (n c : Nat) (z : Int), Sem.run Try.prog (Instr.field 119 (.agg #[.slice A n c, .int .i64 z]) 1) w = .ok (.int .i64 z) w := fun _ _ _ _ _ => by kernel_rfl
  go_enter Try.func43, Try.ntmps43
  go_wp2_with (go_at_call 61; refine (H.out _ ((Fr.refl No w).alloc _)).mono ?_; rintro e w1 ⟨u, rfl, ⟨A1, c1, rfl, hc1, hr1⟩, hf1⟩; have H1 := Lib.hid hf1; clear hr1 hf1 hc1)
  go_ret
  exact ⟨rfl, ((Fr.refl No w).alloc _).trans (H1.out.mono fun _ _ f => f.elim)⟩

end Go.Proofs.Ytkcppngopdiljaa
/- Reference 13 (store): Trim. -/
set_option linter.unusedVariables false
set_option linter.unusedSimpArgs false
namespace Go.Proofs.Ytkcppngopdiljaa
open Go.RowKit

theorem info_rchn : (Try.prog.info? 119).map (fun i => (i.zero, i.size, i.bytes)) = some (some (.agg #[.slice none 0 0, .int .i64 0]), 2, 32) := by kernel_rfl
theorem blk_three1 (w : World) (o o' o'' : Obj) : (((w.alloc o).alloc o').alloc o'').heap[w.heap.size]? = some o := by
  rw [Below.heap_alloc _ _ _ (by simp; omega)]; exact blk_two1 w o o'
theorem blk_three2 (w : World) (o o' o'' : Obj) : (((w.alloc o).alloc o').alloc o'').heap[w.heap.size + 1]? = some o' := by
  rw [Below.heap_alloc _ _ _ (by simp)]; exact blk_two2 w o o'
theorem blk_three3 (w : World) (o o' o'' : Obj) : (((w.alloc o).alloc o').alloc o'').heap[w.heap.size + 2]? = some o'' := by
  have := heap_alloc_new ((w.alloc o).alloc o') o''; rwa [World.size_alloc, World.size_alloc] at this

theorem cut_le (c : Chn) (a : Int) : c.cut a ≤ c.l.length := by
  have := seen_le c a
  unfold Chn.cut
  split
  · split
    · omega
    · split <;> omega
  · omega

/-- What the document's loop holds at a round's head. -/
structure RTrimInv (w W wr : World) (F : Nat → Prop) (s : Sto) (a : Int) (A : Option Addr) (c k : Nat) (v : Value) (n : Nat) : Prop where
  le : k ≤ s.kc.length
  sum : n = ((s.kc.map fun p => p.2.cut a).take k).sum
  blk : wr.heap[w.heap.size + 2]? = some (.cells #[.slice A s.kc.length c, v, .int .i64 s.now] 55 (0, 0))
  own : Ow tChn 119 wr (fun i => (F i ∧ i < w.heap.size) ∨ w.heap.size + 2 < i) v ((s.kc.take k).map fun p => p.2.trim a)
  box : ∀ j, v.ownBlock = some j → w.heap.size + 2 < j
  fr : Fr (fun i => i = w.heap.size + 2) W wr

theorem rtrim_next {w W wr w1 w3 : World} {F : Nat → Prop} {s : Sto} {a : Int} {A A3 : Option Addr} {c c3 k n : Nat} {v : Value} {o1 o2 : Obj} {x : Chn} (hsW : W.heap.size = w.heap.size + 3) (hf1 : Fr No wr w1) (hb1 : w1.heap[w.heap.size + 2]? = some (.cells #[.slice A s.kc.length c, v, .int .i64 s.now] 55 (0, 0)))
    (I : RTrimInv w W wr F s a A c k v n) (ho : Ow tChn 119 w3 (fun i => ((F i ∧ i < w.heap.size) ∨ w.heap.size + 2 < i) ∨ ((w1.alloc o1).alloc o2).heap.size ≤ i) (.slice A3 (k + 1) c3) (((s.kc.take k).map fun p => p.2.trim a) ++ [x]))
    (hg : ((w1.alloc o1).alloc o2).grownBy w3 v.ownBlock) (hat : (Value.slice A3 (k + 1) c3).ownBlock = v.ownBlock ∨ (Value.slice A3 (k + 1) c3).ownBlock = some ((w1.alloc o1).alloc o2).heap.size) :
    w3.heap[w.heap.size + 2]? = some (.cells #[.slice A s.kc.length c, v, .int .i64 s.now] 55 (0, 0)) ∧
    (w3.setCell ⟨w.heap.size + 2, 1, none⟩ (.slice A3 (k + 1) c3)).heap[w.heap.size + 2]? = some (.cells #[.slice A s.kc.length c, .slice A3 (k + 1) c3, .int .i64 s.now] 55 (0, 0)) ∧
    Ow tChn 119 (w3.setCell ⟨w.heap.size + 2, 1, none⟩ (.slice A3 (k + 1) c3)) (fun i => (F i ∧ i < w.heap.size) ∨ w.heap.size + 2 < i) (.slice A3 (k + 1) c3) (((s.kc.take k).map fun p => p.2.trim a) ++ [x]) ∧
    (∀ j, (Value.slice A3 (k + 1) c3).ownBlock = some j → w.heap.size + 2 < j) ∧ Fr (fun i => i = w.heap.size + 2) W (w3.setCell ⟨w.heap.size + 2, 1, none⟩ (.slice A3 (k + 1) c3)) := by
  have hlt := blk_lt hb1
  have hb2 : ((w1.alloc o1).alloc o2).heap[w.heap.size + 2]? = some (.cells #[.slice A s.kc.length c, v, .int .i64 s.now] 55 (0, 0)) := (((Fr.refl No w1).alloc o1).alloc o2).blk hb1 (fun f => f)
  have hb3 := (hg.block (w.heap.size + 2) (blk_lt hb2) (fun e => by have := I.box _ e.symm; omega)).trans hb2
  have hb4 := blk_set hb3 1 (.slice A3 (k + 1) c3)
  have hn : ¬ (((F (w.heap.size + 2) ∧ w.heap.size + 2 < w.heap.size) ∨ w.heap.size + 2 < w.heap.size + 2) ∨ ((w1.alloc o1).alloc o2).heap.size ≤ w.heap.size + 2) := by simp; omega
  refine ⟨hb3, by simpa using hb4, (ho.set ⟨w.heap.size + 2, 1, none⟩ hn _).mono fun i hi _ => ?_, fun j hj => ?_, ?_⟩
  · rcases hi with hi | hi
    · exact hi
    · simp at hi; exact .inr (by omega)
  · rcases hat with hat | hat
    · exact I.box j (by rw [← hat]; exact hj)
    · rw [hj] at hat; injection hat with hat; simp at hat; omega
  · have h1 : Fr (fun i => i = w.heap.size + 2) W ((w1.alloc o1).alloc o2) := ((I.fr.trans (hf1.mono fun _ _ f => f.elim)).alloc o1).alloc o2
    have h3 : Fr (fun i => i = w.heap.size + 2) W w3 := h1.grown hg fun j hj => .inr (by have := I.box j hj; omega)
    exact h3.set _ (.inl rfl) _

end Go.Proofs.Ytkcppngopdiljaa
/- Reference 1 (value): Rise. -/
set_option linter.unusedVariables false
set_option linter.unusedSimpArgs false
namespace Go.Proofs.Ytkcppngopdiljaa
open Go.RowKit

theorem info_str : (Try.prog.info? 9).map (fun i => (i.zero, i.size, i.bytes)) = some (some (.string ⟨#[]⟩), 1, 16) := by kernel_rfl

/-- Does a text stand behind all of a list that rises? -/
def okAt (R : List ByteArray) (x : ByteArray) : Prop := ∀ y, R.getLast? = some y → kl y x = true
/-- What the inner loop has found in the first i texts. -/
def Best (R l : List ByteArray) (i : Nat) (b : Int) : Prop :=
  (b = -1 ∧ ∀ j (h : j < l.length), j < i → ¬ okAt R l[j]) ∨ ∃ n : Nat, b = n ∧ n < i ∧ ∃ h : n < l.length, okAt R l[n] ∧ ∀ j (h' : j < l.length), j < i → okAt R l[j] → kl l[j] l[n] = false
section
variable {R l : List ByteArray} {i : Nat} {b : Int}
theorem Best.zero : Best R l 0 (-1) := .inl ⟨rfl, fun j _ h => by omega⟩
theorem Best.skip (h : Best R l i b) (hi : i < l.length) (hn : ¬ okAt R l[i]) : Best R l (i + 1) b := by
  rcases h with ⟨rfl, h⟩ | ⟨n, rfl, h1, h2, h3, h4⟩
  · refine .inl ⟨rfl, fun j hj hji => ?_⟩
    rcases Nat.lt_or_ge j i with h' | h'
    · exact h j hj h'
    · obtain rfl : j = i := by omega
      exact hn
  · refine .inr ⟨n, rfl, by omega, h2, h3, fun j hj hji ho => ?_⟩
    rcases Nat.lt_or_ge j i with h' | h'
    · exact h4 j hj h' ho
    · obtain rfl : j = i := by omega
      exact absurd ho hn
theorem Best.first (h : Best R l i (-1)) (hi : i < l.length) (ho : okAt R l[i]) : Best R l (i + 1) i := by
  rcases h with ⟨_, h⟩ | ⟨n, e, _⟩
  · refine .inr ⟨i, rfl, by omega, hi, ho, fun j hj hji hoj => ?_⟩
    rcases Nat.lt_or_ge j i with h' | h'
    · exact absurd hoj (h j hj h')
    · obtain rfl : j = i := by omega
      exact kl_irrefl _
  · omega
theorem Best.less {n : Nat} (h : Best R l i n) (hi : i < l.length) (hn : n < l.length) (ho : okAt R l[i]) (hk : kl l[i] l[n] = true) : Best R l (i + 1) i := by
  rcases h with ⟨e, _⟩ | ⟨m, e, h1, h2, h3, h4⟩
  · omega
  · obtain rfl : n = m := by omega
    refine .inr ⟨i, rfl, by omega, hi, ho, fun j hj hji hoj => ?_⟩
    rcases Nat.lt_or_ge j i with h' | h'
    · have := h4 j hj h' hoj
      cases hq : kl l[j] l[i] with
      | false => rfl
      | true => have := kl_trans hq hk; rw [h4 j hj h' hoj] at this; cases this
    · obtain rfl : j = i := by omega
      exact kl_irrefl _
theorem Best.keep {n : Nat} (h : Best R l i n) (hi : i < l.length) (hn : n < l.length) (hk : kl l[i] l[n] = false) : Best R l (i + 1) n := by
  rcases h with ⟨e, _⟩ | ⟨m, e, h1, h2, h3, h4⟩
  · omega
  · obtain rfl : n = m := by omega
    refine .inr ⟨n, rfl, by omega, h2, h3, fun j hj hji hoj => ?_⟩
    rcases Nat.lt_or_ge j i with h' | h'
    · exact h4 j hj h' hoj
    · obtain rfl : j = i := by omega
      exact hk
end
theorem okAt_nil (x : ByteArray) : okAt [] x := fun y h => by cases h
theorem okAt_concat (R : List ByteArray) (y x : ByteArray) : okAt (R ++ [y]) x ↔ kl y x = true := by
  unfold okAt; rw [List.getLast?_concat]; simp

/-- What stands in the list that the outer loop makes. -/
structure RiseInv (l R : List ByteArray) : Prop where
  rising : Rising R
  sub : ∀ x ∈ R, x ∈ l
  all : ∀ x ∈ l, x ∈ R ∨ okAt R x
theorem RiseInv.nil (l : List ByteArray) : RiseInv l [] := ⟨List.Pairwise.nil, fun x h => (by cases h), fun x _ => .inr (okAt_nil x)⟩
theorem nil_or_snoc {α : Type} (R : List α) : R = [] ∨ ∃ R0 z, R = R0 ++ [z] := by
  rcases List.eq_nil_or_concat R with h | ⟨R0, z, h⟩
  · exact .inl h
  · exact .inr ⟨R0, z, by rw [h, List.concat_eq_append]⟩
theorem rising_last {R : List ByteArray} (h : Rising R) {x : ByteArray} (ho : okAt R x) : ∀ y ∈ R, kl y x = true := by
  intro y hy
  rcases nil_or_snoc R with rfl | ⟨R0, z, rfl⟩
  · cases hy
  · have hz := (okAt_concat R0 z x).1 ho
    rcases List.mem_append.1 hy with hy | hy
    · exact kl_trans ((List.pairwise_append.1 h).2.2 y hy z (by simp)) hz
    · obtain rfl : y = z := by simpa using hy
      exact hz
theorem RiseInv.step {l R : List ByteArray} (I : RiseInv l R) {n : Nat} (hn : n < l.length) (ho : okAt R l[n]) (hm : ∀ j (h' : j < l.length), okAt R l[j] → kl l[j] l[n] = false) : RiseInv l (R ++ [l[n]]) := by
  refine ⟨List.pairwise_append.2 ⟨I.rising, List.pairwise_singleton _ _, fun y hy z hz => ?_⟩, fun x hx => ?_, fun x hx => ?_⟩
  · obtain rfl : z = _ := by simpa using hz
    exact rising_last I.rising ho y hy
  · rcases List.mem_append.1 hx with hx | hx
    · exact I.sub x hx
    · obtain rfl : x = _ := by simpa using hx
      exact List.getElem_mem _
  · rcases I.all x hx with h | h
    · exact .inl (List.mem_append_left _ h)
    · rw [okAt_concat]
      obtain ⟨j, hj, rfl⟩ := List.getElem_of_mem hx
      have h1 := hm j hj h
      cases h2 : kl l[n] l[j] with
      | true => exact .inr rfl
      | false => left; rw [kl_tri h1 h2]; simp
theorem RiseInv.done {l R : List ByteArray} (I : RiseInv l R) (hm : ∀ j (h' : j < l.length), ¬ okAt R l[j]) : R = rise l := by
  refine I.rising.ext (rising_rise l) fun x => ?_
  rw [mem_rise]
  refine ⟨I.sub x, fun hx => ?_⟩
  rcases I.all x hx with h | h
  · exact h
  · obtain ⟨j, hj, rfl⟩ := List.getElem_of_mem hx
    exact absurd h (hm j hj)
theorem nodup_len {R l : List ByteArray} (h : R.Nodup) (hs : ∀ x ∈ R, x ∈ l) : R.length ≤ l.length := by
  induction R generalizing l with
  | nil => simp
  | cons x R ih =>
    obtain ⟨h1, h2⟩ := List.nodup_cons.1 h
    have hx := hs x (List.mem_cons_self ..)
    have h3 := ih (l := l.filter fun y => decide (y ≠ x)) h2 fun y hy => by
      have hne : y ≠ x := fun e => h1 (e ▸ hy)
      exact List.mem_filter.2 ⟨hs y (List.mem_cons_of_mem _ hy), by simpa using hne⟩
    have h4 : (l.filter fun y => decide (y ≠ x)).length < l.length := List.length_filter_lt_length_iff_exists.2 ⟨x, hx, by simp⟩
    simp only [List.length_cons]
    omega
def lenV : Value → Nat
  | .slice _ n _ => n
  | _ => 0

set_option maxHeartbeats 20000000 in
set_option maxRecDepth 100000 in
theorem ref_rise {w : World} {F : Nat → Prop} {A : Option Addr} {cp : Nat} {l : List ByteArray} (h : Rd Ty.str w F A l) (hl : l.length ≤ 1000000000) :
    Calls Try.prog 51 #[.slice A l.length cp] w fun e w' => ∃ A1 c1, e = .returned (.slice A1 (rise l).length c1) ∧ Ow Ty.str 9 w' (fun k => w.heap.size ≤ k) (.slice A1 (rise l).length c1) (rise l) ∧ Fr No w w' := by
  have H := Lib.hid h
  clear h
  have hlI : (l.length : Int) ≤ 1000000000 := by omega
  go_enter Try.func51, Try.ntmps51
  go_wp2
  go_loopw [3] (fun v wr => ∃ (R : List ByteArray) (A1 : Option Addr) (c1 n : Nat), v = .slice A1 n c1 ∧ Hid (n = R.length ∧ RiseInv l R) ∧ Hid (Ow Ty.str 9 wr (fun k => w.heap.size ≤ k) (.slice A1 n c1) R) ∧ Hid (Fr No w wr)) (fun v _ => l.length + 1 - lenV v)
  case atStart => exact ⟨[], none, 0, 0, rfl, ⟨rfl, RiseInv.nil l⟩, Ow.nil, Fr.refl _ _⟩
  case round =>
    obtain ⟨R, A1, c1, n, rfl, hI, hO, hf⟩ := hrel
    have hnl : n ≤ l.length := by rw [hI.out.1]; exact nodup_len hI.out.2.rising.nodup hI.out.2.sub
    have HO := Lib.hid (And.intro hO.out hf.out)
    clear hO hf
    go_wp2
    go_loopw [4, 5] (fun b i w2 => ∃ (bi : Int) (k : Nat), k ≤ l.length ∧ b = .int .i64 bi ∧ i = .int .i64 k ∧ Hid (Best R l k bi) ∧ Hid (Fr No wr w2)) (fun _ i _ => l.length - (intOf i).toNat)
    case atStart => exact ⟨-1, 0, Nat.zero_le _, rfl, rfl, Best.zero, Fr.refl _ _⟩
    case round =>
      obtain ⟨bi, k, hkl, rfl, rfl, HB0, hf2⟩ := hrel
      have hbi : bi = -1 ∨ ∃ m : Nat, bi = m ∧ m < k ∧ m < l.length := by
        rcases HB0.out with ⟨h, _⟩ | ⟨m, h, h1, h2, _⟩
        · exact .inl h
        · exact .inr ⟨m, h, h1, h2⟩
      have hk0 : (0 : Int) ≤ (k : Int) := Int.natCast_nonneg _
      by_cases hlt : k < l.length
      · have hk1 : (k : Int) < (l.length : Int) := by omega
        obtain ⟨ad, rfl, x0⟩ := str_at (H.out.fr0 (HO.out.2.trans (hf2.out.mono fun _ _ f => f.elim))) hlt
        obtain ⟨hnR, _⟩ := hI.out
        clear hI
        rcases nil_or_snoc R with rfl | ⟨R0, y, rfl⟩
        · obtain rfl : n = 0 := by simpa using hnR
          have HK := Lib.hid (okAt_nil l[k])
          clear hnR
          rcases hbi with rfl | ⟨m, rfl, hmk, hml⟩
          · have hB' := Best.first HB0.out hlt HK.out
            have HB := Lib.hid hB'
            clear hB'
            go_wp2
            go_quiet (fail)
            go_wp2
            go_roundw
            case rel => exact ⟨_, k + 1, by omega, rfl, by go_num, HB.out, hf2.out.drewN _⟩
            case measure => simp [intOf]; omega
          · obtain ⟨ad2, e2, x1⟩ := str_at (H.out.fr0 (HO.out.2.trans (hf2.out.mono fun _ _ f => f.elim))) hml
            obtain rfl := Option.some.inj e2
            have hm0 : (0 : Int) ≤ (m : Int) := Int.natCast_nonneg _
            have hm9 : decide ((m : Int) < 0) = false := decide_eq_false (by omega)
            have hm1 : (m : Int) < (l.length : Int) := by omega
            cases hk : Op.bytesLess l[k].toList l[m].toList
            · have hB' := Best.keep HB0.out hlt hml hk
              have HB := Lib.hid hB'
              clear hB'
              go_wp2
              go_quiet (fail)
              go_wp2
              go_roundw
              case rel => exact ⟨_, k + 1, by omega, rfl, by go_num, HB.out, hf2.out.drewN _⟩
              case measure => simp [intOf]; omega
            · have hB' := Best.less HB0.out hlt hml HK.out hk
              have HB := Lib.hid hB'
              clear hB'
              go_wp2
              go_quiet (fail)
              go_wp2
              go_roundw
              case rel => exact ⟨_, k + 1, by omega, rfl, by go_num, HB.out, hf2.out.drewN _⟩
              case measure => simp [intOf]; omega
        · obtain rfl : n = R0.length + 1 := by simpa using hnR
          obtain ⟨ad3, rfl, x3⟩ := str_at (HO.out.1.fr0 hf2.out).rd.2.2 (i := R0.length) (by simp)
          have hy : (R0 ++ [y])[R0.length]'(by simp) = y := by simp
          rw [hy] at x3
          have hn0 : (0 : Int) ≤ (R0.length : Int) := Int.natCast_nonneg _
          have hn1 : (R0.length : Int) ≤ 1000000000 := by omega
          have hn7 : (R0.length : Int) < (R0.length : Int) + 1 := by omega
          have hn6 : R0.length < R0.length + 1 := by omega
          have hn9 : ((R0.length : Int) + 1 == 0) = false := by simp; omega
          have hn8 : IntKind.i64.wrap (R0.length : Int) = (R0.length : Int) := IntWalk.i64_in _ (by omega)
          have hkl := (kl_not l[k] y).symm
          cases h5 : Op.bytesLess l[k].toList y.toList <;> cases h6 : (l[k].toList == y.toList)
          case false.false =>
            have HK := Lib.hid ((okAt_concat R0 y l[k]).2 (by rw [hkl, h5, h6]; rfl))
            clear hnR hy hkl
            rcases hbi with rfl | ⟨m, rfl, hmk, hml⟩
            · have hB' := Best.first HB0.out hlt HK.out
              have HB := Lib.hid hB'
              clear hB'
              go_wp2
              go_quiet (fail)
              go_wp2
              go_roundw
              case rel => exact ⟨_, k + 1, by omega, rfl, by go_num, HB.out, hf2.out.drewN _⟩
              case measure => simp [intOf]; omega
            · obtain ⟨ad2, e2, x1⟩ := str_at (H.out.fr0 (HO.out.2.trans (hf2.out.mono fun _ _ f => f.elim))) hml
              obtain rfl := Option.some.inj e2
              have hm0 : (0 : Int) ≤ (m : Int) := Int.natCast_nonneg _
              have hm9 : decide ((m : Int) < 0) = false := decide_eq_false (by omega)
              have hm1 : (m : Int) < (l.length : Int) := by omega
              cases hk : Op.bytesLess l[k].toList l[m].toList
              · have hB' := Best.keep HB0.out hlt hml hk
                have HB := Lib.hid hB'
                clear hB'
                go_wp2
                go_quiet (fail)
                go_wp2
                go_roundw
                case rel => exact ⟨_, k + 1, by omega, rfl, by go_num, HB.out, hf2.out.drewN _⟩
                case measure => simp [intOf]; omega
              · have hB' := Best.less HB0.out hlt hml HK.out hk
                have HB := Lib.hid hB'
                clear hB'
                go_wp2
                go_quiet (fail)
                go_wp2
                go_roundw
                case rel => exact ⟨_, k + 1, by omega, rfl, by go_num, HB.out, hf2.out.drewN _⟩
                case measure => simp [intOf]; omega
          all_goals
            have hB' := Best.skip HB0.out hlt (by rw [okAt_concat]; intro h; rw [hkl, h5, h6] at h; cases h)
            have HB := Lib.hid hB'
            clear hB' hnR hy hkl
            go_wp2
            go_quiet (fail)
            go_wp2
            go_roundw
            case rel => exact ⟨_, k + 1, by omega, rfl, by go_num, HB.out, hf2.out.drewN _⟩
            case measure => simp [intOf]; omega
      · obtain rfl : k = l.length := by omega
        rcases hbi with rfl | ⟨m, rfl, hmk, hml⟩
        · have hR : R = rise l := hI.out.2.done fun j hj => by
            rcases HB0.out with ⟨_, h⟩ | ⟨m, e, _⟩
            · exact h j hj hj
            · omega
          go_wp2
          go_ret
          refine ⟨A1, c1, ?_, ?_, HO.out.2.trans (hf2.out.mono fun _ _ f => f.elim)⟩
          · rw [← hR, ← hI.out.1]; rfl
          · rw [← hR, ← hI.out.1]; exact HO.out.1.fr0 hf2.out
        · obtain ⟨ad, rfl, x1⟩ := str_at (H.out.fr0 (HO.out.2.trans (hf2.out.mono fun _ _ f => f.elim))) hml
          have hm0 : (0 : Int) ≤ (m : Int) := Int.natCast_nonneg _
          have hm9 : decide ((m : Int) < 0) = false := decide_eq_false (by omega)
          have hm1 : (m : Int) < (l.length : Int) := by omega
          have hI2 : RiseInv l (R ++ [l[m]]) := by
            rcases HB0.out with ⟨e, _⟩ | ⟨m', e, _, h2, h3, h4⟩
            · omega
            · obtain rfl : m = m' := by omega
              exact hI.out.2.step h2 h3 fun j hj => h4 j hj hj
          have hnl2 : n + 1 ≤ l.length := by
            have := nodup_len hI2.rising.nodup hI2.sub
            rw [List.length_append] at this
            rw [hI.out.1]; exact this
          have hln : R.length = n := hI.out.1.symm
          have HI2 := Lib.hid (And.intro hI2 hln)
          clear hI2 hln
          generalize l[m] = x at *
          go_wp2_with (at_builtin; refine ow_append Ty.str (ys := [x]) ((HO.out.1.fr0 hf2.out).fr0 ((Fr.refl No _).alloc _)) _ _ (.string ⟨#[]⟩) 16 rfl rfl Try.underlying52 info_str rfl (by decide) (by decide) rfl rfl rfl (Row.single (t := Ty.str) (x := x) (c := [.string x]) rfl) (At.block (heap_alloc_new _ _)) (by rw [HI2.out.2]; simp; omega) ?_
                       intro A3 c3 w3 hown3 hg3 hat3
                       have hlen3 : R.length + [x].length = n + 1 := congrArg (· + 1) HI2.out.2
                       rw [hlen3] at hown3 ⊢
                       have hf3 : Fr No w w3 := ((HO.out.2.trans (hf2.out.mono fun _ _ f => f.elim)).alloc _).grown hg3 fun j hj => .inr (HO.out.1.own hj).1
                       have hown4 : Ow Ty.str 9 w3 (fun k => w.heap.size ≤ k) (.slice A3 (n + 1) c3) (R ++ [x]) := hown3.mono fun i hi _ => by
                         have := HO.out.2.size
                         have := hf2.out.size
                         simp at hi
                         omega
                       have H3 := Lib.hid (And.intro hown4 hf3)
                       clear hown3 hg3 hat3 hlen3 hf3 hown4)
          go_roundw
          case rel => exact ⟨R ++ [x], A3, c3, n + 1, rfl, ⟨by rw [List.length_append, HI2.out.2]; rfl, HI2.out.1⟩, H3.out.1, H3.out.2⟩
          case measure => simp [lenV]; omega
end Go.Proofs.Ytkcppngopdiljaa
/- Reference 06 (record): Batch. -/
set_option linter.unusedVariables false
set_option linter.unusedSimpArgs false
namespace Go.Proofs.Ytkcppngopdiljaa
open Go.RowKit

theorem act_at {w : World} {F : Nat → Prop} {A : Option Addr} {l : List Actn} (h : Rd tAct w F A l) {i : Nat} (hi : i < l.length) :
    ∃ ad, A = some ad ∧ w.cell? (ad.add (i * 3)) = some (.int .u8 l[i].key.toNat) ∧ w.cell? ⟨(ad.add (i * 3)).block, (ad.add (i * 3)).off + 1, none⟩ = some (.int .u8 l[i].row.toNat) ∧
      w.cell? ⟨(ad.add (i * 3)).block, (ad.add (i * 3)).off + 2, none⟩ = some (.bool l[i].gone) := by
  obtain ⟨ad, cs, e, hk, e0, e1⟩ := h.get' hi (by decide)
  obtain ⟨_, _, rfl, rfl, _, _, rfl, rfl, rfl⟩ := hk
  exact ⟨ad, e, e0 _ rfl, e1 1 _ (by decide) rfl, e1 2 _ (by decide) rfl⟩

theorem run_kq (w : World) (q : UInt8) : (convert 27 9 (.slice (some ⟨w.heap.size, 0, none⟩) 2 2)).run Try.prog (w.alloc (.cells #[.int .u8 107, .int .u8 (q.toNat : Int)] 5)) = .ok (.string (kq q)) (w.alloc (.cells #[.int .u8 107, .int .u8 (q.toNat : Int)] 5)) := by
  have hb : (w.alloc (.cells #[.int .u8 107, .int .u8 (q.toNat : Int)] 5)).heap[w.heap.size]? = some (.cells #[.int .u8 107, .int .u8 (q.toNat : Int)] 5 (0, 0)) := heap_alloc_new w _
  have := run_convert_bytes_arg (P := Try.prog) (w.alloc (.cells #[.int .u8 107, .int .u8 (q.toNat : Int)] 5)) 27 5 Try.underlying27 Try.underlying5 w.heap.size 0 2 2 [107, (q.toNat : Int)] rfl (fun i hi => by
    rw [Nat.zero_add, blk_cell hb i]
    match i, hi with
    | 0, _ => rfl
    | 1, _ => rfl) 9 Try.underlying9
  have hs : strOfNums [107, (q.toNat : Int)] = kq q := by simp [strOfNums, kq]
  rw [hs] at this
  exact this

theorem run_kq12 (w : World) (q : UInt8) : (convert 27 9 (.slice (some ⟨w.heap.size, 0, none⟩) 2 2)).run Try.prog (w.alloc (.cells #[.int .u8 107, .int .u8 ((q.toNat : Int) % 12)] 5)) = .ok (.string (kq (q % 12))) (w.alloc (.cells #[.int .u8 107, .int .u8 ((q.toNat : Int) % 12)] 5)) := by
  have hmod : (q.toNat : Int) % 12 = ((q % 12).toNat : Int) := by rw [UInt8.toNat_mod]; rfl
  rw [hmod]
  exact run_kq w (q % 12)

/-- The document's boxes. -/
structure BBox (w wr : World) (n : Int) (v : Value) : Prop where
  b0 : wr.heap[w.heap.size]? = some (.cells #[.int .i64 0, .slice none 0 0] 40 (0, 0))
  b1 : wr.heap[w.heap.size + 1]? = some (.cells #[.int .i64 n, v] 40 (0, 0))
  fr : Fr No w wr
theorem BBox.fr0 {w wr w' : World} {n : Int} {v : Value} (h : BBox w wr n v) (f : Fr No wr w') : BBox w w' n v := ⟨f.blk h.b0 (fun f => f), f.blk h.b1 (fun f => f), h.fr.trans (f.mono fun _ _ f => f.elim)⟩
theorem BBox.size {w wr : World} {n : Int} {v : Value} (h : BBox w wr n v) : w.heap.size + 2 ≤ wr.heap.size := blk_lt h.b1

theorem BBox.step {w wr w' : World} {n : Int} {v : Value} (h : BBox w wr n v) {S : Nat → Prop} (f : Fr S wr w') (hS : ∀ i, S i → w.heap.size + 1 < i) : BBox w w' n v :=
  ⟨f.blk h.b0 (fun h => by have := hS _ h; omega), f.blk h.b1 (fun h => by have := hS _ h; omega), h.fr.trans (f.mono fun i _ hi => .inr (by have := hS _ hi; omega))⟩


theorem info_awr : (Try.prog.info? 43).map (fun i => (i.zero, i.size, i.bytes)) = some (some (.agg #[.string ⟨#[]⟩, .slice none 0 0, .bool false]), 3, 48) := by kernel_rfl

/-- A write in a box of its own. -/
structure RWr (wr wx : World) (x : Wr) (b : Nat) : Prop where
  lt : wr.heap.size ≤ b
  fr : Fr No wr wx
  box : ∃ A' c', wx.heap[b]? = some (.cells #[.string x.key, .slice A' x.row.length c', .bool x.gone] 43 (0, 0)) ∧ x.row.length ≤ c' ∧ Rd Ty.u8 wx (fun i => wr.heap.size ≤ i ∧ i ≠ b) A' x.row
theorem RWr.fr0 {wr wx w' : World} {x : Wr} {b : Nat} (h : RWr wr wx x b) (f : Fr No wx w') : RWr wr w' x b := by
  obtain ⟨h1, h2, A', c', h3, h4, h5⟩ := h
  exact ⟨h1, h2.trans (f.mono fun _ _ f => f.elim), A', c', f.blk h3 (fun f => f), h4, h5.fr0 f⟩
theorem RWr.row {wr wx : World} {x : Wr} {b : Nat} (h : RWr wr wx x b) (r : UInt8) (g : Bool) :
    RWr wr (((wx.alloc (.cells #[.int .u8 (r.toNat : Int)] 5)).setCell ⟨b, 1, none⟩ (.slice (some ⟨wx.heap.size, 0, none⟩) 1 1)).setCell ⟨b, 2, none⟩ (.bool g)) ⟨x.key, [r], g⟩ b := by
  obtain ⟨h1, h2, A', c', h3, h4, h5⟩ := h
  have hlt := blk_lt h3
  have hf : Fr No wr (wx.alloc (.cells #[.int .u8 (r.toNat : Int)] 5)) := h2.alloc _
  have hb := blk_set (blk_set (((Fr.refl No wx).alloc (.cells #[.int .u8 (r.toNat : Int)] 5)).blk h3 (fun f => f)) 1 (.slice (some ⟨wx.heap.size, 0, none⟩) 1 1)) 2 (.bool g)
  have hs := h2.size
  refine ⟨h1, (hf.set _ (.inr h1) _).set _ (.inr h1) _, some ⟨wx.heap.size, 0, none⟩, 1, by simpa using hb, Nat.le_refl _, ?_⟩
  have hrd : Rd Ty.u8 (wx.alloc (.cells #[.int .u8 (r.toNat : Int)] 5)) (fun i => wr.heap.size ≤ i ∧ i ≠ b) (some ⟨wx.heap.size, 0, none⟩) [r] :=
    Rd.block (heap_alloc_new wx _) ⟨hs, by omega⟩ ⟨[.int .u8 r.toNat], [], rfl, rfl, rfl⟩ (by simp)
  exact (hrd.set2 ⟨b, 1, none⟩ (fun h => h.2 rfl) _).set2 ⟨b, 2, none⟩ (fun h => h.2 rfl) _
theorem RWr.fin {wr wx : World} {x : Wr} {b : Nat} (h : RWr wr wx x b) (hg : x.gone = true) : RWr wr (wx.setCell ⟨b, 1, none⟩ (.slice none 0 0)) ⟨x.key, [], true⟩ b := by
  obtain ⟨h1, h2, A', c', h3, h4, h5⟩ := h
  have hb := blk_set h3 1 (.slice none 0 0)
  rw [hg] at hb
  exact ⟨h1, h2.set _ (.inr h1) _, none, 0, by simpa using hb, Nat.le_refl _, Rd.nil⟩

/-- What stands at the outer loop's head. -/
structure RBat (w wc wr : World) (n : Int) (l : List Actn) (K : List ByteArray) (q : Nat) (v : Value) : Prop where
  le : q ≤ K.length
  blk : wr.heap[w.heap.size + 1]? = some (.cells #[.int .i64 n, v] 40 (0, 0))
  own : Ow tWr 43 wr (fun i => wc.heap.size ≤ i) v ((K.take q).map fun k => finW (accW k l))
  box : ∀ j, v.ownBlock = some j → wc.heap.size ≤ j
  fr : Fr (fun i => i = w.heap.size + 1) wc wr

theorem rbat_next {w wc wr wx w3 : World} {n : Int} {l : List Actn} {K : List ByteArray} {A3 : Option Addr} {c3 q b : Nat} {v : Value} {x : Wr} {o : Obj} (hbc : w.heap.size + 1 < wc.heap.size)
    (I : RBat w wc wr n l K q v) (hx : RWr wr wx x b) (ho : Ow tWr 43 w3 (fun i => wc.heap.size ≤ i ∨ (wx.alloc o).heap.size ≤ i) (.slice A3 (q + 1) c3) (((K.take q).map fun k => finW (accW k l)) ++ [x]))
    (hg : (wx.alloc o).grownBy w3 v.ownBlock) (hat : (Value.slice A3 (q + 1) c3).ownBlock = v.ownBlock ∨ (Value.slice A3 (q + 1) c3).ownBlock = some (wx.alloc o).heap.size) :
    w3.heap[w.heap.size + 1]? = some (.cells #[.int .i64 n, v] 40 (0, 0)) ∧
    (w3.setCell ⟨w.heap.size + 1, 1, none⟩ (.slice A3 (q + 1) c3)).heap[w.heap.size + 1]? = some (.cells #[.int .i64 n, .slice A3 (q + 1) c3] 40 (0, 0)) ∧
    Ow tWr 43 (w3.setCell ⟨w.heap.size + 1, 1, none⟩ (.slice A3 (q + 1) c3)) (fun i => wc.heap.size ≤ i) (.slice A3 (q + 1) c3) (((K.take q).map fun k => finW (accW k l)) ++ [x]) ∧
    (∀ j, (Value.slice A3 (q + 1) c3).ownBlock = some j → wc.heap.size ≤ j) ∧ Fr (fun i => i = w.heap.size + 1) wc (w3.setCell ⟨w.heap.size + 1, 1, none⟩ (.slice A3 (q + 1) c3)) := by
  have hwr := I.fr.size
  have hxs := hx.fr.size
  have hb2 : (wx.alloc o).heap[w.heap.size + 1]? = some (.cells #[.int .i64 n, v] 40 (0, 0)) := ((hx.fr).alloc o).blk I.blk (fun f => f)
  have hb3 := (hg.block (w.heap.size + 1) (blk_lt hb2) (fun e => by have := I.box _ e.symm; omega)).trans hb2
  have hb4 := blk_set hb3 1 (.slice A3 (q + 1) c3)
  have hn : ¬ (wc.heap.size ≤ w.heap.size + 1 ∨ (wx.alloc o).heap.size ≤ w.heap.size + 1) := by simp; omega
  refine ⟨hb3, by simpa using hb4, (ho.set ⟨w.heap.size + 1, 1, none⟩ hn _).mono fun i hi _ => ?_, fun j hj => ?_, ?_⟩
  · rcases hi with hi | hi
    · exact hi
    · simp at hi; show wc.heap.size ≤ i; omega
  · rcases hat with hat | hat
    · exact I.box j (by rw [← hat]; exact hj)
    · rw [hj] at hat; injection hat with hat; simp at hat; omega
  · have h1 : Fr (fun i => i = w.heap.size + 1) wc (wx.alloc o) := (I.fr.trans (hx.fr.mono fun _ _ f => f.elim)).alloc o
    have h3 : Fr (fun i => i = w.heap.size + 1) wc w3 := h1.grown hg fun j hj => .inr (I.box j hj)
    exact h3.set _ (.inl rfl) _

set_option maxHeartbeats 4000000 in
set_option maxRecDepth 100000 in
theorem ref_batch_own {w : World} {F : Nat → Prop} {D : Option Addr} {e : Nat} {l : List Actn} (n : Int) (h : Rd tAct w F D l) (hl : l.length ≤ 1000000) :
    Calls Try.prog 37 #[.int .i64 n, .slice D l.length e] w fun e w' => ∃ A c, e = .returned (.agg #[.int .i64 n, .slice A (batchW l).length c]) ∧ Fr No w w' ∧ Ow tWr 43 w' (fun i => w.heap.size ≤ i) (.slice A (batchW l).length c) (batchW l) := by
  have kc := run_kq12
  have hlI : (l.length : Int) ≤ 1000000 := by omega
  obtain ⟨W, hW⟩ : ∃ W, W = (w.alloc (.cells #[.int .i64 0, .slice none 0 0] 40)).alloc (.cells #[.int .i64 n, .slice none 0 0] 40) := ⟨_, rfl⟩
  have hB : BBox w W n (.slice none 0 0) := ⟨by rw [hW]; exact blk_two1 .., by rw [hW]; exact blk_two2 .., by rw [hW]; exact ((Fr.refl No w).alloc _).alloc _⟩
  have H := Lib.hid (And.intro (h.mono fun i hi hl => (⟨hi, hl⟩ : F i ∧ i < w.heap.size)) hB)
  clear h hB
  go_enter Try.func37, Try.ntmps37
  go_wp2_with fail
  rw [← hW]
  clear hW
  go_loopw [6, 7] (fun v i wr => ∃ (k : Nat) (A3 : Option Addr) (c3 : Nat), k ≤ l.length ∧ i = .int .i64 k ∧ v = .slice A3 k c3 ∧ Hid (Ow Ty.str 9 wr (fun i => w.heap.size + 1 < i) (.slice A3 k c3) ((l.take k).map actKey)) ∧ Hid (BBox w wr n (.slice none 0 0))) (fun _ i _ => l.length - (intOf i).toNat)
  case atStart => exact ⟨0, none, 0, Nat.zero_le _, rfl, rfl, by show Ow _ _ _ _ _ _; simpa using Ow.nil, H.out.2⟩
  case round =>
    obtain ⟨k, A3, c3, hk, rfl, rfl, hO, hB⟩ := hrel
    have hq0 : (0 : Int) ≤ (k : Int) := Int.natCast_nonneg _
    by_cases hlt : k < l.length
    · have hq1 : (k : Int) < (l.length : Int) := by omega
      obtain ⟨ad, rfl, x0, _, _⟩ := act_at (H.out.1.fr0 hB.out.fr) hlt
      have htk : (l.take (k + 1)).map actKey = (l.take k).map actKey ++ [kq (l[k].key % 12)] := by rw [List.take_succ_eq_append_getElem hlt, List.map_append]; rfl
      have hlk : ((l.take k).map actKey).length = k := by rw [List.length_map, List.length_take]; omega
      have HT := Lib.hid (And.intro htk hlk)
      clear htk hlk
      generalize l[k].key = x at *
      have hx0 : (0 : Int) ≤ (x.toNat : Int) := Int.natCast_nonneg _
      have hx1 : (x.toNat : Int) < 256 := by have := x.toNat_lt; omega
      have hmod : ((x % 12).toNat : Int) = (x.toNat : Int) % 12 := by rw [UInt8.toNat_mod]; rfl
      go_wp2_with (at_builtin; refine ow_append Ty.str (ys := [kq (x % 12)]) ((hO.out.fr0 ((Fr.refl No wr).alloc _)).fr0 ((Fr.refl No _).alloc _)) _ _ (.string ⟨#[]⟩) 16 rfl rfl Try.underlying52 info_str rfl (by decide) (by decide) rfl rfl rfl (Row.single (t := Ty.str) (x := kq (x % 12)) (c := [.string (kq (x % 12))]) rfl) (At.block (blk_two2 _ _ _)) (by rw [HT.out.2]; simp; omega) ?_
                   intro A4 c4 w4 hown4 hg4 hat4
                   have hlen4 : _ + [kq (x % 12)].length = k + 1 := congrArg (· + 1) HT.out.2
                   rw [hlen4] at hown4 ⊢
                   have hown5 : Ow Ty.str 9 w4 (fun i => w.heap.size + 1 < i) (.slice A4 (k + 1) c4) ((l.take k).map actKey ++ [kq (x % 12)]) := hown4.mono fun i hi _ => by
                     rcases hi with hi | hi
                     · exact hi
                     · have := hB.out.size; simp at hi; show w.heap.size + 1 < i; omega
                   have hB4 : BBox w w4 n (.slice none 0 0) := (hB.out.fr0 (((Fr.refl No wr).alloc _).alloc _)).step ((Fr.refl (fun i => some i = (Value.slice A3 k c3).ownBlock) _).grown hg4 fun j hj => .inl hj.symm) fun i hi => (hO.out.own hi.symm).1
                   have H4 := Lib.hid (And.intro hown5 hB4)
                   clear hown4 hg4 hat4 hlen4 hown5 hB4)
      go_roundw
      case rel => exact ⟨k + 1, A4, c4, by omega, by go_num, rfl, by rw [HT.out.1]; exact H4.out.1, H4.out.2⟩
      case measure => simp [intOf]; omega
    · obtain rfl : k = l.length := by omega
      rw [List.take_length] at hO
      have hlk : (l.map actKey).length = l.length := List.length_map ..
      have hrise := fun w' (f : Fr No wr w') => ref_rise (cp := c3) (hO.out.rd.2.2.fr0 f) (by rw [hlk]; omega)
      rw [hlk] at hrise
      have HRise := Lib.hid hrise
      clear hrise
      go_wp2_with (go_at_call 51; refine (HRise.out _ (Fr.refl _ _)).mono ?_; rintro e5 w5 ⟨A5, c5, rfl, ho5, hf5⟩
                   have H5 := Lib.hid (And.intro ho5 hf5)
                   clear ho5 hf5)
      obtain ⟨K, hKe⟩ : ∃ K, rise (l.map actKey) = K := ⟨_, rfl⟩
      rw [hKe] at H5
      rw [hKe]
      have hKl : K.length ≤ l.length := by
        rw [← hKe]
        have := rise_length (l.map actKey)
        omega
      have hKi : (K.length : Int) ≤ 1000000 := by omega
      have hbb := hB.out.fr0 H5.out.2
      have hk6 : Rd Ty.str w5 (fun i => w.heap.size + 1 < i ∧ i < w5.heap.size) (some ⟨0, 0, none⟩) ([] : List ByteArray) := Rd.nil
      have HK := Lib.hid (And.intro hKe (And.intro hbb (And.intro ((hO.out.rd.2.2.fr0 H5.out.2).mono fun i hi hl => (⟨hi, hl⟩ : w.heap.size + 1 < i ∧ i < w5.heap.size)) (And.intro H5.out.1.rd.2.1 (H5.out.1.rd.2.2.mono fun i hi hl => (⟨hi, hl⟩ : wr.heap.size ≤ i ∧ i < w5.heap.size))))))
      have hbc : w.heap.size + 1 < w5.heap.size := hbb.size
      have hwr2 := hB.out.size
      clear hKe hbb hk6 HRise hlk
      go_loopw [9] (fun i wo => ∃ (q : Nat) (v : Value), i = .int .i64 q ∧ Hid (RBat w w5 wo n l K q v)) (fun i _ => K.length - (intOf i).toNat)
      case atStart => exact ⟨0, .slice none 0 0, rfl, ⟨Nat.zero_le _, HK.out.2.1.b1, by simpa using Ow.nil, fun j hj => by simp [Value.ownBlock] at hj, Fr.refl _ _⟩⟩
      case round =>
        obtain ⟨wo, hwo⟩ : ∃ wo, wo = wr := ⟨_, rfl⟩
        subst hwo
        obtain ⟨q, v, rfl, I⟩ := hrel
        obtain ⟨A2, cv, rfl, hc2, hr2⟩ := I.out.own.slice
        clear hc2 hr2
        have hlk : ((K.take q).map fun k => finW (accW k l)).length = q := by rw [List.length_map, List.length_take]; have := I.out.le; omega
        rw [hlk] at I
        have HLk := Lib.hid hlk
        clear hlk
        have hq0 : (0 : Int) ≤ (q : Int) := Int.natCast_nonneg _
        by_cases hlt : q < K.length
        · have hq1 : (q : Int) < (K.length : Int) := by omega
          obtain ⟨ad8, rfl, x8⟩ := str_at (HK.out.2.2.2.2.fr I.out.fr fun i hi e => by have := hi.1; omega) hlt
          obtain ⟨key, hkey⟩ : ∃ key, K[q] = key := ⟨_, rfl⟩
          rw [hkey] at x8
          have htk : (K.take (q + 1)).map (fun k => finW (accW k l)) = (K.take q).map (fun k => finW (accW k l)) ++ [finW (accW key l)] := by rw [List.take_succ_eq_append_getElem hlt, List.map_append, hkey]; rfl
          have HX := Lib.hid htk
          clear htk hkey
          obtain ⟨W, hW⟩ : ∃ W, W = wo.alloc (.cells #[.string key, .slice none 0 0, .bool false] 43) := ⟨_, rfl⟩
          have hx0 : RWr wo W ⟨key, [], false⟩ wo.heap.size := ⟨Nat.le_refl _, by rw [hW]; exact (Fr.refl No wo).alloc _, none, 0, by rw [hW]; exact heap_alloc_new wo _, Nat.le_refl _, Rd.nil⟩
          have H0 := Lib.hid hx0
          clear hx0
          go_wp2_with fail
          rw [← hW]
          clear hW
          go_loopw [11] (fun i wi => ∃ (p : Nat), p ≤ l.length ∧ i = .int .i64 p ∧ Hid (RWr wo wi (accW key (l.take p)) wo.heap.size)) (fun i _ => l.length - (intOf i).toNat)
          case atStart => exact ⟨0, Nat.zero_le _, rfl, H0.out⟩
          case round =>
            obtain ⟨wi, hwi⟩ : ∃ wi, wi = wr := ⟨_, rfl⟩
            subst hwi
            obtain ⟨p, hp, rfl, HI⟩ := hrel
            have hp0 : (0 : Int) ≤ (p : Int) := Int.natCast_nonneg _
            have hfw : Fr (fun i => i = w.heap.size + 1) w5 wi := I.out.fr.trans (HI.out.fr.mono fun _ _ f => f.elim)
            have hfw0 : Fr No w wi := HK.out.2.1.fr.trans (hfw.mono fun i _ hi => .inr (by omega))
            have x8 := HI.out.fr.cell x8 (fun f => f)
            obtain ⟨key', row, gone, hxe⟩ : ∃ k r g, accW key (l.take p) = ⟨k, r, g⟩ := ⟨_, _, _, rfl⟩
            obtain rfl : key = key' := by have := (accW_key key (l.take p)).1; rw [hxe] at this; exact this.symm
            rw [hxe] at HI
            obtain ⟨A7, c7, hb7, hc7, hr7⟩ := HI.out.box
            have g0 := blk_cell hb7 0
            have g1 := blk_cell hb7 1
            have g2 := blk_cell hb7 2
            have zg1 := blk_frozen hb7 1
            have zg2 := blk_frozen hb7 2
            simp at g0 g1 g2
            have hbl := blk_lt hb7
            by_cases hlt2 : p < l.length
            · have hp1 : (p : Int) < (l.length : Int) := by omega
              obtain ⟨ad, rfl, _, y1, y2⟩ := act_at (H.out.1.fr0 hfw0) hlt2
              obtain ⟨ad6, rfl, x6⟩ := str_at (HK.out.2.2.1.fr hfw fun i hi e => by have := hi.1; omega) (i := p) (by rw [List.length_map]; exact hlt2)
              rw [List.getElem_map] at x6
              have hstep : accW key (l.take (p + 1)) = if actKey l[p] = key then ⟨key, [l[p].row], l[p].gone⟩ else accW key (l.take p) := by rw [List.take_succ_eq_append_getElem hlt2, accW_snoc]
              rw [hxe] at hstep
              have HS := Lib.hid hstep
              clear hstep hxe
              generalize actKey l[p] = ak at *
              generalize l[p].row = r at *
              generalize l[p].gone = g at *
              have HR := Lib.hid (And.intro hb7 (And.intro hc7 (And.intro hr7 (And.intro hfw hfw0))))
              clear hb7 hc7 hr7 hfw hfw0
              cases hb : (ak.toList == key.toList)
              · go_wp2_with fail
                go_quiet (fail)
                go_wp2
                go_roundw
                case rel =>
                  refine ⟨p + 1, by omega, by go_num, ?_⟩
                  show RWr wo _ (accW key (l.take (p + 1))) wo.heap.size
                  rw [HS.out, if_neg (by rw [beq_toList] at hb; simpa using hb)]
                  exact HI.out.fr0 ((Fr.refl No _).drewN _)
                case measure => simp [intOf]; omega
              · have hk : ak = key := by rw [beq_toList] at hb; simpa using hb
                have HS2 := Lib.hid (HS.out.trans (if_pos hk))
                clear hk
                have y1a := fun nq o => cell_alloc (w := wi.drewN nq) y1 o
                have y2a := fun nq o => cell_alloc (w := wi.drewN nq) y2 o
                have g1a := fun nq o => cell_alloc (w := wi.drewN nq) g1 o
                have g2a := fun nq o => cell_alloc (w := wi.drewN nq) g2 o
                have zg1a := fun nq o => blk_frozen (((Fr.refl No wi).drewN nq).alloc o |>.blk HR.out.1 (fun f => f)) 1
                have zg2a := fun nq o => blk_frozen (((Fr.refl No wi).drewN nq).alloc o |>.blk HR.out.1 (fun f => f)) 2
                go_wp2_with fail
                go_quiet (fail)
                go_wp2_with fail
                go_region
                all_goals
                  go_wp2
                  go_roundw
                  case rel =>
                    refine ⟨p + 1, by omega, by go_num, ?_⟩
                    show RWr wo _ (accW key (l.take (p + 1))) wo.heap.size
                    rw [HS2.out]
                    refine (HI.out.fr0 (w' := wi.drewN _) ?_).row r g
                    exact (Fr.refl No _).drewN _
                  case measure => simp [intOf]; omega
            · obtain rfl : p = l.length := by omega
              rw [List.take_length] at hxe
              have hI1 := I.out.blk
              have hbi := HI.out.fr.blk hI1 (fun f => f)
              have n1 := blk_cell hbi 1
              simp at n1
              have hwo : w.heap.size + 1 < wo.heap.size := blk_lt hI1
              have hne1 : w.heap.size + 1 ≠ wo.heap.size := by omega
              have hqi : ((q : Int) + 1) * 48 ≤ 140737488355328 := by omega
              have HR := Lib.hid (And.intro hb7 (And.intro hc7 (And.intro hr7 hfw)))
              clear hb7 hc7 hr7 hfw hfw0 hI1 hbi
              cases gone with
              | true =>
                have hF : finW (accW key l) = ⟨key, [], true⟩ := by rw [hxe]; rfl
                have HF := Lib.hid hF
                have HX2 := Lib.hid (HI.out.fin rfl)
                have hnw := heap_alloc_new (wi.setCell ⟨wo.heap.size, 1, none⟩ (.slice none 0 0)) (.cells #[.string key, .slice none 0 0, .bool true] 43)
                rw [show (wi.setCell ⟨wo.heap.size, 1, none⟩ (.slice none 0 0)).heap.size = wi.heap.size by simp [World.setCell]] at hnw
                have Hnw := Lib.hid hnw
                clear hF hxe hnw
                go_wp2_with (at_builtin; refine ow_append tWr (ys := [⟨key, [], true⟩]) ((I.out.own.fr0 HX2.out.fr).fr0 ((Fr.refl No _).alloc _)) _ _ (.agg #[.string ⟨#[]⟩, .slice none 0 0, .bool false]) 48 rfl rfl Try.underlying29 info_awr rfl (by decide) (by decide) rfl rfl rfl (Row.single (tWr_mk (a := key) (r := []) (g := true) (A := none) (c := 0) (Nat.le_refl 0) (((Rd.nil (t := Ty.u8) (w := wi.setCell ⟨wo.heap.size, 1, none⟩ (.slice none 0 0)) (F := fun i => wo.heap.size ≤ i ∧ i ≠ wo.heap.size) (A := none)).fr0 ((Fr.refl No _).alloc _)).mono fun i hi hl => ?qf))) (At.block Hnw.out) ?ql ?_
                             case qf =>
                               have h2 := I.out.fr.size
                               refine ⟨by have := hi.1; show w5.heap.size ≤ i; omega, fun he => ?_⟩
                               have h4 := (I.out.own.own he).2
                               have := hi.1; omega
                             case ql => rw [HLk.out]; simp; omega
                             intro A3n c3n w3 hown3 hg3 hat3
                             have hlen3 : ((K.take q).map fun k => finW (accW k l)).length + [(⟨key, [], true⟩ : Wr)].length = q + 1 := by rw [HLk.out]; rfl
                             rw [hlen3] at hown3 hat3 ⊢
                             have hnx := rbat_next hbc I.out HX2.out hown3 hg3 hat3
                             have k3 := blk_cell hnx.1 1
                             have z3 := blk_frozen hnx.1 1
                             simp at k3
                             have H3 := Lib.hid hnx
                             clear hnx hown3 hg3 hat3 hlen3)
                go_roundw
                case rel => exact ⟨q + 1, .slice A3n (q + 1) c3n, by go_num, ⟨by omega, H3.out.2.1, by rw [HX.out, HF.out]; exact H3.out.2.2.1, H3.out.2.2.2.1, H3.out.2.2.2.2⟩⟩
                case measure => simp [intOf]; omega
                
              | false =>
                have hF : finW (accW key l) = ⟨key, row, false⟩ := by rw [hxe]; rfl
                have HF := Lib.hid hF
                have HX2 := HI
                clear hF hxe
                go_wp2_with (at_builtin; refine ow_append tWr (ys := [⟨key, row, false⟩]) ((I.out.own.fr0 HX2.out.fr).fr0 ((Fr.refl No _).alloc _)) _ _ (.agg #[.string ⟨#[]⟩, .slice none 0 0, .bool false]) 48 rfl rfl Try.underlying29 info_awr rfl (by decide) (by decide) rfl rfl rfl (Row.single (tWr_mk (a := key) (r := row) (g := false) (A := A7) (c := c7) HR.out.2.1 ((HR.out.2.2.1.fr0 ((Fr.refl No _).alloc _)).mono fun i hi hl => ?qf))) (At.block (heap_alloc_new _ _)) ?ql ?_
                             case qf =>
                               have h2 := I.out.fr.size
                               refine ⟨by have := hi.1; show w5.heap.size ≤ i; omega, fun he => ?_⟩
                               have h4 := (I.out.own.own he).2
                               have := hi.1; omega
                             case ql => rw [HLk.out]; simp; omega
                             intro A3n c3n w3 hown3 hg3 hat3
                             have hlen3 : ((K.take q).map fun k => finW (accW k l)).length + [(⟨key, row, false⟩ : Wr)].length = q + 1 := by rw [HLk.out]; rfl
                             rw [hlen3] at hown3 hat3 ⊢
                             have hnx := rbat_next hbc I.out HX2.out hown3 hg3 hat3
                             have k3 := blk_cell hnx.1 1
                             have z3 := blk_frozen hnx.1 1
                             simp at k3
                             have H3 := Lib.hid hnx
                             clear hnx hown3 hg3 hat3 hlen3)
                go_roundw
                case rel => exact ⟨q + 1, .slice A3n (q + 1) c3n, by go_num, ⟨by omega, H3.out.2.1, by rw [HX.out, HF.out]; exact H3.out.2.2.1, H3.out.2.2.2.1, H3.out.2.2.2.2⟩⟩
                case measure => simp [intOf]; omega
                
        · obtain rfl : q = K.length := by have := I.out.le; omega
          have hbw : wo.heap[w.heap.size]? = some (.cells #[.int .i64 0, .slice none 0 0] 40 (0, 0)) := I.out.fr.blk HK.out.2.1.b0 (by omega)
          have b0 := blk_cell hbw 0
          have b1 := blk_cell hbw 1
          have z0 := blk_frozen hbw 0
          have z1 := blk_frozen hbw 1
          have c0 := blk_cell I.out.blk 0
          have c1 := blk_cell I.out.blk 1
          simp at b0 b1 c0 c1
          have hI := I.out.own.rd
          have hb4 := blk_set (blk_set hbw 0 (.int .i64 n)) 1 (.slice A2 K.length cv)
          have d0 := blk_cell hb4 0
          have d1 := blk_cell hb4 1
          simp at d0 d1
          have hfr : Fr No w ((wo.setCell ⟨w.heap.size, 0, none⟩ (.int .i64 n)).setCell ⟨w.heap.size, 1, none⟩ (.slice A2 K.length cv)) :=
            ((HK.out.2.1.fr.trans (I.out.fr.mono fun i _ e => .inr (by omega))).set _ (.inr (by simp)) _).set _ (.inr (by simp)) _
          have hrd := (I.out.own.set ⟨w.heap.size, 0, none⟩ (fun hi => by have hi' : w5.heap.size ≤ w.heap.size := hi; omega) (.int .i64 n)).set ⟨w.heap.size, 1, none⟩ (fun hi => by have hi' : w5.heap.size ≤ w.heap.size := hi; omega) (.slice A2 K.length cv)
          rw [List.take_length] at hrd
          have HE := Lib.hid (And.intro hrd (And.intro hfr (And.intro hI.2.1 (And.intro d0 d1))))
          clear hrd hfr hI d0 d1 hb4 hbw
          go_wp2
          obtain ⟨hrd, hfr, hc2, d0, d1⟩ := HE.out
          have hbk : batchW l = K.map fun k => finW (accW k l) := by unfold batchW; rw [HK.out.1]
          have hbl : (batchW l).length = K.length := by rw [hbk, List.length_map]
          refine bodyPost_ret (v := .agg #[.int .i64 n, .slice A2 K.length cv]) (by simp [results, Try.results37, go_sem, d0, d1]) rfl ⟨A2, cv, by rw [hbl], hfr, ?_⟩
          rw [hbl, hbk]
          exact hrd.mono fun i hi _ => by have hi' : w5.heap.size ≤ i := hi; omega
theorem ref_batch {w : World} {F : Nat → Prop} {D : Option Addr} {e : Nat} {l : List Actn} (n : Int) (h : Rd tAct w F D l) (hl : l.length ≤ 1000000) :
    Calls Try.prog 37 #[.int .i64 n, .slice D l.length e] w fun e w' => ∃ A c, e = .returned (.agg #[.int .i64 n, .slice A (batchW l).length c]) ∧ Fr No w w' ∧ (batchW l).length ≤ c ∧ Rd tWr w' (fun i => w.heap.size ≤ i) A (batchW l) := by
  refine (ref_batch_own (e := e) n h hl).mono ?_
  rintro e' w' ⟨A, c, he, hf, ho⟩
  exact ⟨A, c, he, hf, ho.rd.2.1, ho.rd.2.2⟩
end Go.Proofs.Ytkcppngopdiljaa
/- Reference 14 (tx): Write. -/
set_option linter.unusedVariables false
set_option linter.unusedSimpArgs false
namespace Go.Proofs.Ytkcppngopdiljaa
open Go.RowKit

/-- The document's transaction as a value. -/
def TxVal (w : World) (F : Nat → Prop) (v : Value) (base : Int) (ws : List Wr) : Prop := ∃ A c, v = .agg #[.int .i64 base, .slice A ws.length c] ∧ ws.length ≤ c ∧ Rd tWr w F A ws

/-- What stands in the loop: the new transaction's box. -/
structure WInv (w W wr : World) (F R : Nat → Prop) (base : Int) (out : List Wr) (v : Value) : Prop where
  blk : wr.heap[w.heap.size + 3]? = some (.cells #[.int .i64 base, v] 34 (0, 0))
  own : Ow tWr 43 wr (fun i => ((F i ∨ R i) ∧ i < w.heap.size) ∨ w.heap.size + 3 < i) v out
  box : ∀ j, v.ownBlock = some j → w.heap.size + 3 < j
  fr : Fr (fun i => i = w.heap.size + 3) W wr
theorem winv_next {w W wr w1 w3 : World} {F R : Nat → Prop} {base : Int} {out : List Wr} {v : Value} {y : Wr} {A3 : Option Addr} {n c3 : Nat} {o : Obj} (hW : W.heap.size = w.heap.size + 4) (I : WInv w W wr F R base out v) (hf : Fr No wr w1)
    (ho : Ow tWr 43 w3 (fun i => (((F i ∨ R i) ∧ i < w.heap.size) ∨ w.heap.size + 3 < i) ∨ (w1.alloc o).heap.size ≤ i) (.slice A3 n c3) (out ++ [y])) (hg : (w1.alloc o).grownBy w3 v.ownBlock)
    (hat : (Value.slice A3 n c3).ownBlock = v.ownBlock ∨ (Value.slice A3 n c3).ownBlock = some (w1.alloc o).heap.size) :
    w3.heap[w.heap.size + 3]? = some (.cells #[.int .i64 base, v] 34 (0, 0)) ∧ WInv w W (w3.setCell ⟨w.heap.size + 3, 1, none⟩ (.slice A3 n c3)) F R base (out ++ [y]) (.slice A3 n c3) := by
  have hws := I.fr.size
  have h1s := hf.size
  have hb2 : (w1.alloc o).heap[w.heap.size + 3]? = some (.cells #[.int .i64 base, v] 34 (0, 0)) := (hf.alloc o).blk I.blk (fun f => f)
  have hb3 := (hg.block (w.heap.size + 3) (blk_lt hb2) (fun e => by have := I.box _ e.symm; omega)).trans hb2
  have hb4 := blk_set hb3 1 (.slice A3 n c3)
  have hn : ¬ ((((F (w.heap.size + 3) ∨ R (w.heap.size + 3)) ∧ w.heap.size + 3 < w.heap.size) ∨ w.heap.size + 3 < w.heap.size + 3) ∨ (w1.alloc o).heap.size ≤ w.heap.size + 3) := by simp; omega
  refine ⟨hb3, by simpa using hb4, (ho.set ⟨w.heap.size + 3, 1, none⟩ hn _).mono fun i hi _ => ?_, fun j hj => ?_, ?_⟩
  · rcases hi with hi | hi
    · exact hi
    · simp at hi; exact .inr (by omega)
  · rcases hat with hat | hat
    · exact I.box j (by rw [← hat]; exact hj)
    · rw [hj] at hat; injection hat with hat; simp at hat; omega
  · have h1 : Fr (fun i => i = w.heap.size + 3) W (w1.alloc o) := (I.fr.trans (hf.mono fun _ _ f => f.elim)).alloc o
    have h3 : Fr (fun i => i = w.heap.size + 3) W w3 := h1.grown hg fun j hj => .inr (by have := I.box j hj; omega)
    exact h3.set _ (.inl rfl) _
theorem WInv.fr0 {w W wr w' : World} {F R : Nat → Prop} {base : Int} {out : List Wr} {v : Value} (h : WInv w W wr F R base out v) (f : Fr No wr w') : WInv w W w' F R base out v :=
  ⟨f.blk h.blk (fun f => f), h.own.fr0 f, h.box, h.fr.trans (f.mono fun _ _ f => f.elim)⟩

theorem wwrite_eq {ws : List Wr} {x : Wr} (hr : Rising (ws.map Wr.key)) (hn : ws.length ≤ 20) : wwrite ws x = if 20 < (wput x ws).length then (ws, 1) else (wput x ws, 0) := by
  unfold wwrite
  rw [wput_length hr]
  by_cases h1 : (wfind x.key ws).isNone = true
  · by_cases h2 : 20 ≤ ws.length
    · rw [if_pos ⟨h1, h2⟩, if_pos h1, if_pos (by omega)]
    · rw [if_neg (fun h => h2 h.2), if_pos h1, if_neg (by omega)]
  · rw [if_neg (fun h => h1 h.1), if_neg h1, if_neg (by omega)]
theorem wend {w wr2 : World} {F R S : Nat → Prop} {base : Int} {l : List Wr} {A' : Option Addr} {c' : Nat} (hb : wr2.heap[w.heap.size + 2]? = some (.cells #[.int .i64 0, .slice none 0 0] 34 (0, 0))) (hf : Fr No w wr2) (hr : Rd tWr wr2 S A' l) (hS : ∀ i, S i → i ≠ w.heap.size + 2 ∧ (F i ∨ R i ∨ w.heap.size ≤ i)) (hc : l.length ≤ c') :
    let w' := (wr2.setCell ⟨w.heap.size + 2, 0, none⟩ (.int .i64 base)).setCell ⟨w.heap.size + 2, 1, none⟩ (.slice A' l.length c')
    w'.cell? ⟨w.heap.size + 2, 0, none⟩ = some (.int .i64 base) ∧ w'.cell? ⟨w.heap.size + 2, 1, none⟩ = some (.slice A' l.length c') ∧ TxVal w' (fun i => F i ∨ R i ∨ w.heap.size ≤ i) (.agg #[.int .i64 base, .slice A' l.length c']) base l ∧ Fr No w w' := by
  have hb4 := blk_set (blk_set hb 0 (.int .i64 base)) 1 (.slice A' l.length c')
  have d0 := blk_cell hb4 0
  have d1 := blk_cell hb4 1
  simp at d0 d1
  refine ⟨d0, d1, ⟨A', c', rfl, hc, ((hr.set2 ⟨w.heap.size + 2, 0, none⟩ (fun h => (hS _ h).1 rfl) _).set2 ⟨w.heap.size + 2, 1, none⟩ (fun h => (hS _ h).1 rfl) _).mono fun i hi _ => (hS i hi).2⟩, (hf.set _ (.inr (by simp)) _).set _ (.inr (by simp)) _⟩

set_option maxHeartbeats 4000000 in
set_option maxRecDepth 100000 in
theorem ref_write {w : World} {F R : Nat → Prop} {v : Value} {base : Int} {ws : List Wr} {Ar : Option Addr} {cr : Nat} {x : Wr} (h : TxVal w F v base ws) (hn : ws.length ≤ 20) (hr : Rising (ws.map Wr.key)) (hx : Rd Ty.u8 w R Ar x.row) (hc : x.row.length ≤ cr) :
    Calls Try.prog 34 #[v, .agg #[.string x.key, .slice Ar x.row.length cr, .bool x.gone]] w fun e w' => ∃ u, e = .returned (.tuple #[u, .int .i64 (wwrite ws x).2]) ∧ TxVal w' (fun i => F i ∨ R i ∨ w.heap.size ≤ i) u base (wwrite ws x).1 ∧ Fr No w w' := by
  obtain ⟨A, c, rfl, h1, h2⟩ := h
  have hnI : (ws.length : Int) ≤ 20 := by omega
  obtain ⟨W, hW⟩ : ∃ W, W = (((w.alloc (.cells #[.int .i64 base, .slice A ws.length c] 34)).alloc (.cells #[.string x.key, .slice Ar x.row.length cr, .bool x.gone] 43)).alloc (.cells #[.int .i64 0, .slice none 0 0] 34)).alloc (.cells #[.int .i64 base, .slice none 0 0] 34) := ⟨_, rfl⟩
  have hf : Fr No w W := by rw [hW]; exact ((((Fr.refl No w).alloc _).alloc _).alloc _).alloc _
  have hsW : W.heap.size = w.heap.size + 4 := by rw [hW]; simp
  have hb0 : W.heap[w.heap.size]? = some (.cells #[.int .i64 base, .slice A ws.length c] 34 (0, 0)) := by rw [hW]; exact ((Fr.refl No _).alloc _).blk (blk_three1 ..) (fun f => f)
  have hb1 : W.heap[w.heap.size + 1]? = some (.cells #[.string x.key, .slice Ar x.row.length cr, .bool x.gone] 43 (0, 0)) := by rw [hW]; exact ((Fr.refl No _).alloc _).blk (blk_three2 ..) (fun f => f)
  have hb2 : W.heap[w.heap.size + 2]? = some (.cells #[.int .i64 0, .slice none 0 0] 34 (0, 0)) := by rw [hW]; exact ((Fr.refl No _).alloc _).blk (blk_three3 ..) (fun f => f)
  have hb3 : W.heap[w.heap.size + 3]? = some (.cells #[.int .i64 base, .slice none 0 0] 34 (0, 0)) := by
    rw [hW]
    have := heap_alloc_new (((w.alloc (.cells #[.int .i64 base, .slice A ws.length c] 34)).alloc (.cells #[.string x.key, .slice Ar x.row.length cr, .bool x.gone] 43)).alloc (.cells #[.int .i64 0, .slice none 0 0] 34)) (.cells #[.int .i64 base, .slice none 0 0] 34)
    rwa [World.size_alloc, World.size_alloc, World.size_alloc] at this
  have hw3 : W.heap.size = w.heap.size + 4 := hsW
  have H := Lib.hid (And.intro (h2.mono fun i hi hl => (⟨hi, hl⟩ : F i ∧ i < w.heap.size)) (And.intro (hx.mono fun i hi hl => (⟨hi, hl⟩ : R i ∧ i < w.heap.size)) (And.intro hf (And.intro hb0 (And.intro hb1 (And.intro hb2 (And.intro hb3 (And.intro hr (And.intro h1 hc)))))))))
  clear h1 h2 hx hf hb0 hb1 hb2 hb3 hr hc
  go_enter Try.func34, Try.ntmps34
  go_wp2_with fail
  rw [← hW]
  clear hW
  go_loopw [7, 8] (fun dv iv wr => ∃ (k : Nat) (v : Value), k ≤ ws.length ∧ iv = .int .i64 k ∧ dv = .bool (wdone x (ws.take k)) ∧ Hid (WInv w W wr F R base (wout x (ws.take k)) v)) (fun _ iv _ => ws.length - (intOf iv).toNat)
  case atStart => exact ⟨0, .slice none 0 0, Nat.zero_le _, rfl, rfl, ⟨H.out.2.2.2.2.2.2.1, Ow.nil, fun j hj => by simp [Value.ownBlock] at hj, Fr.refl _ _⟩⟩
  case round =>
    obtain ⟨k, v, hk, rfl, rfl, I⟩ := hrel
    obtain ⟨A2, c2, hv, _, _⟩ := I.out.own.slice
    have HV := Lib.hid hv
    clear hv
    have hq0 : (0 : Int) ≤ (k : Int) := Int.natCast_nonneg _
    have hfr : Fr (fun i => i = w.heap.size + 3) w wr := (H.out.2.2.1.mono fun _ _ f => f.elim).trans (I.out.fr.mono fun i _ hi => .inl hi)
    have hB0 := I.out.fr.blk H.out.2.2.2.1 (by omega)
    have hB1 := I.out.fr.blk H.out.2.2.2.2.1 (by omega)
    have a0 := blk_cell hB0 0
    have a1 := blk_cell hB0 1
    have b0 := blk_cell hB1 0
    have b1 := blk_cell hB1 1
    have b2 := blk_cell hB1 2
    have o0 := blk_cell I.out.blk 0
    have o1 := blk_cell I.out.blk 1
    have oz := blk_frozen I.out.blk 1
    simp at a0 a1 b0 b1 b2 o0 o1
    by_cases hlt : k < ws.length
    · have hq1 : (k : Int) < (ws.length : Int) := by omega
      obtain ⟨ad, A', c', rfl, x0w, x1w, x2w, hc', hrd⟩ := wr_at H.out.1 hlt
      have hadn : ¬ (ad.add (k * 3)).block = w.heap.size + 3 := fun e => by have := World.block_lt_of_cell? w _ x0w; omega
      have htk : ws.take (k + 1) = ws.take k ++ [ws[k]] := List.take_succ_eq_append_getElem hlt
      have hstep := wout_step (x := x) (l := ws.take k) (y := ws[k]) (by rw [← htk, List.map_take]; exact H.out.2.2.2.2.2.2.2.1.sublist (List.take_sublist _ _))
      have hdone := wdone_snoc x (ws.take k) ws[k]
      have hnd : wdone x (ws.take k) = true → ws[k].key ≠ x.key := fun hd e => (wput_snoc hd (by rw [← htk, List.map_take]; exact H.out.2.2.2.2.2.2.2.1.sublist (List.take_sublist _ _))).2 e.symm
      rw [← htk] at hstep hdone
      have hol : (wout x (ws.take k)).length ≤ 21 := by
        unfold wout
        split
        · rw [wput_length (by rw [List.map_take]; exact H.out.2.2.2.2.2.2.2.1.sublist (List.take_sublist _ _))]
          have := List.length_take_le k ws
          split <;> omega
        · have := List.length_take_le k ws; omega
      obtain ⟨y, hy⟩ : ∃ y, ws[k] = y := ⟨_, rfl⟩
      rw [hy] at x0w x1w x2w hc' hrd hstep hdone hnd
      have x0 := hfr.cell x0w hadn
      have HX0 := Lib.hid (And.intro x0w hadn)
      have HX1 := Lib.hid (And.intro x1w x2w)
      clear x0w x1w x2w hadn
      obtain ⟨out, hout⟩ : ∃ out, wout x (ws.take k) = out := ⟨_, rfl⟩
      rw [hout] at I hstep hol
      obtain ⟨d, hd⟩ : ∃ d, wdone x (ws.take k) = d := ⟨_, rfl⟩
      rw [hd] at hstep hdone hnd ⊢
      have HS := Lib.hid (And.intro hstep (And.intro hdone (And.intro hc' (And.intro hrd hol))))
      have HND := Lib.hid hnd
      clear hnd hstep hdone hc' hrd hol htk hy hout hd hB0 hB1
      have hXR : Hid (Rd Ty.u8 wr (fun i => R i ∧ i < w.heap.size) Ar x.row ∧ x.row.length ≤ cr) := ⟨H.out.2.1.fr hfr fun i hi e => by have := hi.2; omega, H.out.2.2.2.2.2.2.2.2.2⟩
      have HX := hXR
      clear hXR hfr
      cases d with
      | true =>
        have hne : y.key ≠ x.key := HND.out rfl
        have hb : (y.key.toList == x.key.toList) = false := by rw [beq_toList]; simpa using hne
        have HN := Lib.hid hne
        clear hne
        go_wp2_with fail
        go_quiet (fail)
        go_wp2_with fail
        go_cut [46] (fun s46 wx => s46 = .bool true ∧ Hid (∃ v', WInv w W wx F R base (out) v'))
        case first =>
          go_quiet (fail)
          go_wp2_with fail
          go_meet
          exact ⟨rfl, _, I.out.fr0 (((Fr.refl No wr).drewN _).drewN _)⟩
        case rest =>
          obtain ⟨rfl, HC⟩ := hcut
          obtain ⟨v1, I1⟩ := HC.out
          have hol1 : (out).length ≤ 22 := by have := HS.out.2.2.2.2; simp; try omega
          have hfr1 : Fr (fun i => i = w.heap.size + 3) w wc := (H.out.2.2.1.mono fun _ _ f => f.elim).trans (I1.fr.mono fun i _ hi => .inl hi)
          have hB0 := I1.fr.blk H.out.2.2.2.1 (by omega)
          have x0 := hfr1.cell HX0.out.1 HX0.out.2
          have x1 := hfr1.cell HX1.out.1 HX0.out.2
          have x2 := hfr1.cell HX1.out.2 HX0.out.2
          have a1 := blk_cell hB0 1
          have o1 := blk_cell I1.blk 1
          have oz := blk_frozen I1.blk 1
          simp at a1 o1
          have hrd1 := HS.out.2.2.2.1.fr hfr1 fun i hi e => by have := hi.2; omega
          have a1a := fun o => cell_alloc (w := wc) a1 o
          have o1a := fun o => cell_alloc (w := wc) o1 o
          have HJ := Lib.hid (And.intro I1 (And.intro hol1 hrd1))
          clear I1 hol1 hfr1 hB0 hrd1 HC
          go_wp2_with fail
          go_region_law
            (first
              | (refine ow_append_step tWr (ys := [y]) ((HJ.out.1.own.fr0 ((Fr.refl No wc).alloc _)).fr0 ((Fr.refl No _).drew)) _ _ (.agg #[.string ⟨#[]⟩, .slice none 0 0, .bool false]) 48 rfl rfl Try.underlying29 info_awr rfl (by decide) (by decide) rfl rfl rfl
                   (Row.single (tWr_mk (a := y.key) (r := y.row) (g := y.gone) (A := A') (c := c') HS.out.2.2.1 (((HJ.out.2.2.fr0 ((Fr.refl No wc).alloc _)).fr0 ((Fr.refl No _).drew)).mono fun i hi hl => ⟨.inl ⟨.inl hi.1, hi.2⟩, fun he => by have := HJ.out.1.box i he; have := hi.2; omega⟩))) (At.block (heap_alloc_new wc _)) (by have := HJ.out.2.1; simp only [List.length_singleton]; omega) ?_
                 intro A8 c8 w8 hown8 hg8 hat8
                 have hnx := winv_next hw3 HJ.out.1 ((Fr.refl No wc).drew) hown8 hg8 hat8
                 have k8 := blk_cell hnx.1 1
                 have z8 := blk_frozen hnx.1 1
                 simp at k8
                 have H8 := Lib.hid hnx.2
                 clear hnx hown8 hg8 hat8))
          all_goals
            go_wp2_with fail
            go_roundw
            case rel =>
              refine ⟨k + 1, .slice A8 (out.length + [y].length) c8, by omega, by go_num, ?_, ?_⟩
              · rw [HS.out.2.1]; simp [HN.out]
              · show WInv w W _ F R base (wout x (ws.take (k + 1))) _
                rw [HS.out.1]
                simpa [HN.out] using H8.out
            case measure => simp [intOf]; omega
      | false =>
        cases hkl : Op.bytesLess y.key.toList x.key.toList with
        | true =>
          have hkl2 : kl y.key x.key = true := hkl
          have hne : y.key ≠ x.key := kl_ne hkl2
          have hb : (y.key.toList == x.key.toList) = false := by rw [beq_toList]; simpa using hne
          have HN := Lib.hid (And.intro hne hkl2)
          clear hne hkl2
          go_wp2_with fail
          go_quiet (fail)
          go_wp2_with fail
          go_cut [46] (fun s46 wx => s46 = .bool true ∧ Hid (∃ v', WInv w W wx F R base (out) v'))
          case first =>
            go_quiet (fail)
            go_wp2_with fail
            go_meet
            exact ⟨rfl, _, I.out.fr0 (((Fr.refl No wr).drewN _).drewN _)⟩
          case rest =>
            obtain ⟨rfl, HC⟩ := hcut
            obtain ⟨v1, I1⟩ := HC.out
            have hol1 : (out).length ≤ 22 := by have := HS.out.2.2.2.2; simp; try omega
            have hfr1 : Fr (fun i => i = w.heap.size + 3) w wc := (H.out.2.2.1.mono fun _ _ f => f.elim).trans (I1.fr.mono fun i _ hi => .inl hi)
            have hB0 := I1.fr.blk H.out.2.2.2.1 (by omega)
            have x0 := hfr1.cell HX0.out.1 HX0.out.2
            have x1 := hfr1.cell HX1.out.1 HX0.out.2
            have x2 := hfr1.cell HX1.out.2 HX0.out.2
            have a1 := blk_cell hB0 1
            have o1 := blk_cell I1.blk 1
            have oz := blk_frozen I1.blk 1
            simp at a1 o1
            have hrd1 := HS.out.2.2.2.1.fr hfr1 fun i hi e => by have := hi.2; omega
            have a1a := fun o => cell_alloc (w := wc) a1 o
            have o1a := fun o => cell_alloc (w := wc) o1 o
            have HJ := Lib.hid (And.intro I1 (And.intro hol1 hrd1))
            clear I1 hol1 hfr1 hB0 hrd1 HC
            go_wp2_with fail
            go_region_law
              (first
                | (refine ow_append_step tWr (ys := [y]) ((HJ.out.1.own.fr0 ((Fr.refl No wc).alloc _)).fr0 ((Fr.refl No _).drew)) _ _ (.agg #[.string ⟨#[]⟩, .slice none 0 0, .bool false]) 48 rfl rfl Try.underlying29 info_awr rfl (by decide) (by decide) rfl rfl rfl
                     (Row.single (tWr_mk (a := y.key) (r := y.row) (g := y.gone) (A := A') (c := c') HS.out.2.2.1 (((HJ.out.2.2.fr0 ((Fr.refl No wc).alloc _)).fr0 ((Fr.refl No _).drew)).mono fun i hi hl => ⟨.inl ⟨.inl hi.1, hi.2⟩, fun he => by have := HJ.out.1.box i he; have := hi.2; omega⟩))) (At.block (heap_alloc_new wc _)) (by have := HJ.out.2.1; simp only [List.length_singleton]; omega) ?_
                   intro A8 c8 w8 hown8 hg8 hat8
                   have hnx := winv_next hw3 HJ.out.1 ((Fr.refl No wc).drew) hown8 hg8 hat8
                   have k8 := blk_cell hnx.1 1
                   have z8 := blk_frozen hnx.1 1
                   simp at k8
                   have H8 := Lib.hid hnx.2
                   clear hnx hown8 hg8 hat8))
            all_goals
              go_wp2_with fail
              go_roundw
              case rel =>
                refine ⟨k + 1, .slice A8 (out.length + [y].length) c8, by omega, by go_num, ?_, ?_⟩
                · rw [HS.out.2.1]; simp [HN.out.1, HN.out.2]
                · show WInv w W _ F R base (wout x (ws.take (k + 1))) _
                  rw [HS.out.1]
                  simpa [HN.out.1, HN.out.2] using H8.out
              case measure => simp [intOf]; omega
        | false =>
          have HK : Hid (kl y.key x.key = false) := hkl
          cases hb : (y.key.toList == x.key.toList)
          · have hne : y.key ≠ x.key := by rw [beq_toList] at hb; simpa using hb
            have HN := Lib.hid hne
            clear hne
            go_wp2_with fail
            go_quiet (fail)
            go_wp2_with (at_builtin; refine ow_append tWr (ys := [x]) ((I.out.own.fr0 ((Fr.refl No wr).drewN _)).fr0 ((Fr.refl No _).alloc _)) _ _ (.agg #[.string ⟨#[]⟩, .slice none 0 0, .bool false]) 48 rfl rfl Try.underlying29 info_awr rfl (by decide) (by decide) rfl rfl rfl (Row.single (tWr_mk (a := x.key) (r := x.row) (g := x.gone) (A := Ar) (c := cr) HX.out.2 (((HX.out.1.fr0 ((Fr.refl No wr).drewN _)).fr0 ((Fr.refl No _).alloc _)).mono fun i hi hl => ?qf))) (At.block (heap_alloc_new _ _)) ?ql ?_
                         case qf => exact ⟨.inl ⟨.inr hi.1, hi.2⟩, fun he => by have := I.out.box i he; have := hi.2; omega⟩
                         case ql => have := HS.out.2.2.2.2; simp; omega
                         intro A7 c7 w7 hown7 hg7 hat7
                         have hnx := winv_next hw3 I.out ((Fr.refl No wr).drewN _) hown7 hg7 hat7
                         have k7 := blk_cell hnx.1 1
                         have z7 := blk_frozen hnx.1 1
                         have hB0s := hnx.2.fr.blk H.out.2.2.2.1 (by omega)
                         have hB1s := hnx.2.fr.blk H.out.2.2.2.2.1 (by omega)
                         have s1 := blk_cell hB0s 1
                         have s2 := blk_cell hB1s 0
                         have s3 := ((H.out.2.2.1.mono (G := fun i => i = w.heap.size + 3) fun _ _ f => f.elim).trans (hnx.2.fr.mono fun i _ hi => .inl hi)).cell HX0.out.1 HX0.out.2
                         simp only [List.length_singleton] at s1 s2 s3
                         simp at k7 s1 s2
                         have H7 := Lib.hid hnx.2
                         clear hnx hown7 hg7 hat7 hB0s hB1s)
            go_cut [46] (fun s46 wx => s46 = .bool true ∧ Hid (∃ v', WInv w W wx F R base (out ++ [x]) v'))
            case first =>
              go_quiet (fail)
              go_wp2_with fail
              go_meet
              exact ⟨rfl, _, H7.out.fr0 ((Fr.refl No _).drewN _)⟩
            case rest =>
              obtain ⟨rfl, HC⟩ := hcut
              obtain ⟨v1, I1⟩ := HC.out
              have hol1 : (out ++ [x]).length ≤ 22 := by have := HS.out.2.2.2.2; simp; try omega
              have hfr1 : Fr (fun i => i = w.heap.size + 3) w wc := (H.out.2.2.1.mono fun _ _ f => f.elim).trans (I1.fr.mono fun i _ hi => .inl hi)
              have hB0 := I1.fr.blk H.out.2.2.2.1 (by omega)
              have x0 := hfr1.cell HX0.out.1 HX0.out.2
              have x1 := hfr1.cell HX1.out.1 HX0.out.2
              have x2 := hfr1.cell HX1.out.2 HX0.out.2
              have a1 := blk_cell hB0 1
              have o1 := blk_cell I1.blk 1
              have oz := blk_frozen I1.blk 1
              simp at a1 o1
              have hrd1 := HS.out.2.2.2.1.fr hfr1 fun i hi e => by have := hi.2; omega
              have a1a := fun o => cell_alloc (w := wc) a1 o
              have o1a := fun o => cell_alloc (w := wc) o1 o
              have HJ := Lib.hid (And.intro I1 (And.intro hol1 hrd1))
              clear I1 hol1 hfr1 hB0 hrd1 HC
              go_wp2_with fail
              go_region_law
                (first
                  | (refine ow_append_step tWr (ys := [y]) ((HJ.out.1.own.fr0 ((Fr.refl No wc).alloc _)).fr0 ((Fr.refl No _).drew)) _ _ (.agg #[.string ⟨#[]⟩, .slice none 0 0, .bool false]) 48 rfl rfl Try.underlying29 info_awr rfl (by decide) (by decide) rfl rfl rfl
                       (Row.single (tWr_mk (a := y.key) (r := y.row) (g := y.gone) (A := A') (c := c') HS.out.2.2.1 (((HJ.out.2.2.fr0 ((Fr.refl No wc).alloc _)).fr0 ((Fr.refl No _).drew)).mono fun i hi hl => ⟨.inl ⟨.inl hi.1, hi.2⟩, fun he => by have := HJ.out.1.box i he; have := hi.2; omega⟩))) (At.block (heap_alloc_new wc _)) (by have := HJ.out.2.1; simp only [List.length_singleton]; omega) ?_
                     intro A8 c8 w8 hown8 hg8 hat8
                     have hnx := winv_next hw3 HJ.out.1 ((Fr.refl No wc).drew) hown8 hg8 hat8
                     have k8 := blk_cell hnx.1 1
                     have z8 := blk_frozen hnx.1 1
                     simp at k8
                     have H8 := Lib.hid hnx.2
                     clear hnx hown8 hg8 hat8))
              all_goals
                go_wp2_with fail
                go_roundw
                case rel =>
                  refine ⟨k + 1, .slice A8 ((out ++ [x]).length + [y].length) c8, by omega, by go_num, ?_, ?_⟩
                  · rw [HS.out.2.1]; simp [HN.out, HK.out]
                  · show WInv w W _ F R base (wout x (ws.take (k + 1))) _
                    rw [HS.out.1]
                    simpa [HN.out, HK.out] using H8.out
                case measure => simp [intOf]; omega
          · have heq : y.key = x.key := by rw [beq_toList] at hb; simpa using hb
            have HN := Lib.hid heq
            clear heq
            go_wp2_with fail
            go_quiet (fail)
            go_wp2_with (at_builtin; refine ow_append tWr (ys := [x]) ((I.out.own.fr0 ((Fr.refl No wr).drewN _)).fr0 ((Fr.refl No _).alloc _)) _ _ (.agg #[.string ⟨#[]⟩, .slice none 0 0, .bool false]) 48 rfl rfl Try.underlying29 info_awr rfl (by decide) (by decide) rfl rfl rfl (Row.single (tWr_mk (a := x.key) (r := x.row) (g := x.gone) (A := Ar) (c := cr) HX.out.2 (((HX.out.1.fr0 ((Fr.refl No wr).drewN _)).fr0 ((Fr.refl No _).alloc _)).mono fun i hi hl => ?qf))) (At.block (heap_alloc_new _ _)) ?ql ?_
                         case qf => exact ⟨.inl ⟨.inr hi.1, hi.2⟩, fun he => by have := I.out.box i he; have := hi.2; omega⟩
                         case ql => have := HS.out.2.2.2.2; simp; omega
                         intro A7 c7 w7 hown7 hg7 hat7
                         have hnx := winv_next hw3 I.out ((Fr.refl No wr).drewN _) hown7 hg7 hat7
                         have k7 := blk_cell hnx.1 1
                         have z7 := blk_frozen hnx.1 1
                         have hB0s := hnx.2.fr.blk H.out.2.2.2.1 (by omega)
                         have hB1s := hnx.2.fr.blk H.out.2.2.2.2.1 (by omega)
                         have s1 := blk_cell hB0s 1
                         have s2 := blk_cell hB1s 0
                         have s3 := ((H.out.2.2.1.mono (G := fun i => i = w.heap.size + 3) fun _ _ f => f.elim).trans (hnx.2.fr.mono fun i _ hi => .inl hi)).cell HX0.out.1 HX0.out.2
                         simp only [List.length_singleton] at s1 s2 s3
                         simp at k7 s1 s2
                         have H7 := Lib.hid hnx.2
                         clear hnx hown7 hg7 hat7 hB0s hB1s)
            go_cut [46] (fun s46 wx => s46 = .bool false ∧ Hid (∃ v', WInv w W wx F R base (out ++ [x]) v'))
            case first =>
              go_quiet (fail)
              go_wp2_with fail
              go_meet
              exact ⟨rfl, _, H7.out.fr0 ((Fr.refl No _).drewN _)⟩
            case rest =>
              obtain ⟨rfl, HC⟩ := hcut
              obtain ⟨v1, I1⟩ := HC.out
              have hol1 : (out ++ [x]).length ≤ 22 := by have := HS.out.2.2.2.2; simp; try omega
              have hfr1 : Fr (fun i => i = w.heap.size + 3) w wc := (H.out.2.2.1.mono fun _ _ f => f.elim).trans (I1.fr.mono fun i _ hi => .inl hi)
              have hB0 := I1.fr.blk H.out.2.2.2.1 (by omega)
              have x0 := hfr1.cell HX0.out.1 HX0.out.2
              have x1 := hfr1.cell HX1.out.1 HX0.out.2
              have x2 := hfr1.cell HX1.out.2 HX0.out.2
              have a1 := blk_cell hB0 1
              have o1 := blk_cell I1.blk 1
              have oz := blk_frozen I1.blk 1
              simp at a1 o1
              have hrd1 := HS.out.2.2.2.1.fr hfr1 fun i hi e => by have := hi.2; omega
              have HJ := Lib.hid I1
              clear I1 hol1 hfr1 hB0 hrd1 HC
              go_wp2_with fail
              go_roundw
              case rel =>
                refine ⟨k + 1, v1, by omega, by go_num, ?_, ?_⟩
                · rw [HS.out.2.1]; simp [HN.out, kl_irrefl]
                · show WInv w W _ F R base (wout x (ws.take (k + 1))) v1
                  rw [HS.out.1]
                  simpa [HN.out, kl_irrefl] using HJ.out
              case measure => simp [intOf]; omega
    · obtain rfl : k = ws.length := by omega
      rw [List.take_length] at I HV ⊢
      have hol : (wout x ws).length ≤ 21 := by
        unfold wout
        split
        · rw [wput_length H.out.2.2.2.2.2.2.2.1]
          split <;> omega
        · omega
      cases hd : wdone x ws with
      | true =>
        have hout : wout x ws = wput x ws := by unfold wout; rw [hd]; rfl
        rw [hout] at I HV hol
        have hv := HV.out
        subst hv
        obtain ⟨n, hnn⟩ : ∃ n, (wput x ws).length = n := ⟨_, rfl⟩
        have hwe := wwrite_eq (x := x) H.out.2.2.2.2.2.2.2.1 hn
        have hI := (I.out).own.rd
        have hfw2 : Fr No w wr := H.out.2.2.1.trans ((I.out).fr.mono fun i _ e => .inr (by omega))
        have hB2 := (I.out).fr.blk H.out.2.2.2.2.2.1 (by omega)
        have hw2 := H.out.1.fr0 hfw2
        have e1 := wend (F := F) (R := R) (base := base) hB2 hfw2 hw2 (fun i hi => ⟨by have := hi.2; omega, .inl hi.1⟩) H.out.2.2.2.2.2.2.2.2.1
        have e2 := wend (F := F) (R := R) (base := base) hB2 hfw2 hI.2.2 (fun i hi => by
          rcases hi with hi | hi
          · exact ⟨by have := hi.2; omega, by rcases hi.1 with h | h; exact .inl h; exact .inr (.inl h)⟩
          · exact ⟨by omega, .inr (.inr (by omega))⟩) (by have := hI.2.1; rw [← hI.1]; exact this)
        have q0 := blk_cell hB2 0
        have q1 := blk_cell hB2 1
        have y0 := blk_frozen hB2 0
        have y1 := blk_frozen hB2 1
        simp at q0 q1
        rw [hnn] at o1 hwe hol e2
        have HE := Lib.hid (And.intro hwe (And.intro e1 e2))
        have hn0 : (0 : Int) ≤ (n : Int) := Int.natCast_nonneg _
        clear hwe e1 e2 hI hfw2 hB2 hw2 hB0 hB1 hout hd
        rw [hnn] at I HV
        clear hnn
        by_cases h20 : 20 < n
        · have h20' : 20 < ((n : Int) : Int) := by omega
          go_wp2_with fail
          obtain ⟨hwe, ⟨d0, d1, tv, hfe⟩, _⟩ := HE.out
          rw [hwe, if_pos h20]
          exact bodyPost_ret (v := .tuple #[.agg #[.int .i64 base, .slice A ws.length c], .int .i64 1]) (by simp [results, Try.results34, go_sem, d0, d1]) rfl ⟨_, rfl, tv, hfe⟩
        · have h20' : ¬ 20 < ((n : Int) : Int) := by omega
          go_wp2_with fail
          obtain ⟨hwe, _, d0, d1, tv, hfe⟩ := HE.out
          rw [hwe, if_neg h20]
          exact bodyPost_ret (v := .tuple #[.agg #[.int .i64 base, .slice A2 n c2], .int .i64 0]) (by simp [results, Try.results34, go_sem, d0, d1]) rfl ⟨_, rfl, tv, hfe⟩
      | false =>
        have hout : wout x ws = ws := by unfold wout; rw [hd]; rfl
        have HOut := Lib.hid hout
        have HPut := Lib.hid (wput_all hd)
        have HLen := Lib.hid (show (wput x ws).length = ws.length + 1 by rw [wput_all hd]; simp)
        have hXR : Hid (Rd Ty.u8 wr (fun i => R i ∧ i < w.heap.size) Ar x.row ∧ x.row.length ≤ cr) := ⟨H.out.2.1.fr hfr fun i hi e => by have := hi.2; omega, H.out.2.2.2.2.2.2.2.2.2⟩
        have HX := hXR
        clear hXR hfr hout hd hB0 hB1
        by_cases h20 : 20 < ws.length + 1
        · have h20' : 20 < ((ws.length : Int) + 1 : Int) := by omega
          go_wp2_with (at_builtin; refine ow_append tWr (ys := [x]) (I.out.own.fr0 ((Fr.refl No wr).alloc _)) _ _ (.agg #[.string ⟨#[]⟩, .slice none 0 0, .bool false]) 48 rfl rfl Try.underlying29 info_awr rfl (by decide) (by decide) rfl rfl rfl (Row.single (tWr_mk (a := x.key) (r := x.row) (g := x.gone) (A := Ar) (c := cr) HX.out.2 ((HX.out.1.fr0 ((Fr.refl No wr).alloc _)).mono fun i hi hl => ?qf))) (At.block (heap_alloc_new _ _)) ?ql ?_
                       case qf => exact ⟨.inl ⟨.inr hi.1, hi.2⟩, fun he => by have := I.out.box i he; have := hi.2; omega⟩
                       case ql => have := HOut.out; rw [this]; simp; omega
                       intro A7 c7 w7 hown7 hg7 hat7
                       have hlen7 : (wout x ws).length + [x].length = ws.length + 1 := by rw [HOut.out]; rfl
                       rw [hlen7] at hown7 hat7 ⊢
                       have hnx := winv_next hw3 I.out (Fr.refl No wr) hown7 hg7 hat7
                       have k7 := blk_cell hnx.1 1
                       have k8 := blk_cell hnx.1 0
                       have z7 := blk_frozen hnx.1 1
                       simp at k7 k8
                       have I2 := hnx.2
                       rw [HOut.out, ← HPut.out] at I2
                       have hl2 := HLen.out
                       have hwe := wwrite_eq (x := x) H.out.2.2.2.2.2.2.2.1 hn
                       have hI := I2.own.rd
                       have hfw2 : Fr No w (w7.setCell ⟨w.heap.size + 3, 1, none⟩ (.slice A7 (ws.length + 1) c7)) := H.out.2.2.1.trans (I2.fr.mono fun i _ e => .inr (by omega))
                       have hB2 := I2.fr.blk H.out.2.2.2.2.2.1 (by omega)
                       have hB0s := I2.fr.blk H.out.2.2.2.1 (by omega)
                       have e1 := wend (F := F) (R := R) (base := base) hB2 hfw2 (H.out.1.fr0 hfw2) (fun i hi => ⟨by have := hi.2; omega, .inl hi.1⟩) H.out.2.2.2.2.2.2.2.2.1
                       have e2 := wend (F := F) (R := R) (base := base) hB2 hfw2 hI.2.2 (fun i hi => by
                         rcases hi with hi | hi
                         · exact ⟨by have := hi.2; omega, by rcases hi.1 with h | h; exact .inl h; exact .inr (.inl h)⟩
                         · exact ⟨by omega, .inr (.inr (by omega))⟩) (by have := hI.2.1; rw [← hI.1]; exact this)
                       rw [hl2] at e2 hwe
                       have q0 := blk_cell hB2 0
                       have q1 := blk_cell hB2 1
                       have y0 := blk_frozen hB2 0
                       have y1 := blk_frozen hB2 1
                       have s0 := blk_cell hB0s 0
                       have s1 := blk_cell hB0s 1
                       simp at q0 q1 s0 s1
                       have HE := Lib.hid (And.intro hwe (And.intro e1 e2))
                       clear hwe e1 e2 hI hfw2 hB2 hB0s hl2 I2 hnx hown7 hg7 hat7 hlen7)
          obtain ⟨hwe, ⟨d0, d1, tv, hfe⟩, _⟩ := HE.out
          rw [hwe, if_pos h20]
          exact bodyPost_ret (v := .tuple #[.agg #[.int .i64 base, .slice A ws.length c], .int .i64 1]) (by simp [results, Try.results34, go_sem, d0, d1]) rfl ⟨_, rfl, tv, hfe⟩
        · have h20' : ¬ 20 < ((ws.length : Int) + 1 : Int) := by omega
          go_wp2_with (at_builtin; refine ow_append tWr (ys := [x]) (I.out.own.fr0 ((Fr.refl No wr).alloc _)) _ _ (.agg #[.string ⟨#[]⟩, .slice none 0 0, .bool false]) 48 rfl rfl Try.underlying29 info_awr rfl (by decide) (by decide) rfl rfl rfl (Row.single (tWr_mk (a := x.key) (r := x.row) (g := x.gone) (A := Ar) (c := cr) HX.out.2 ((HX.out.1.fr0 ((Fr.refl No wr).alloc _)).mono fun i hi hl => ?qf))) (At.block (heap_alloc_new _ _)) ?ql ?_
                       case qf => exact ⟨.inl ⟨.inr hi.1, hi.2⟩, fun he => by have := I.out.box i he; have := hi.2; omega⟩
                       case ql => have := HOut.out; rw [this]; simp; omega
                       intro A7 c7 w7 hown7 hg7 hat7
                       have hlen7 : (wout x ws).length + [x].length = ws.length + 1 := by rw [HOut.out]; rfl
                       rw [hlen7] at hown7 hat7 ⊢
                       have hnx := winv_next hw3 I.out (Fr.refl No wr) hown7 hg7 hat7
                       have k7 := blk_cell hnx.1 1
                       have k8 := blk_cell hnx.1 0
                       have z7 := blk_frozen hnx.1 1
                       simp at k7 k8
                       have I2 := hnx.2
                       rw [HOut.out, ← HPut.out] at I2
                       have hl2 := HLen.out
                       have hwe := wwrite_eq (x := x) H.out.2.2.2.2.2.2.2.1 hn
                       have hI := I2.own.rd
                       have hfw2 : Fr No w (w7.setCell ⟨w.heap.size + 3, 1, none⟩ (.slice A7 (ws.length + 1) c7)) := H.out.2.2.1.trans (I2.fr.mono fun i _ e => .inr (by omega))
                       have hB2 := I2.fr.blk H.out.2.2.2.2.2.1 (by omega)
                       have hB0s := I2.fr.blk H.out.2.2.2.1 (by omega)
                       have e1 := wend (F := F) (R := R) (base := base) hB2 hfw2 (H.out.1.fr0 hfw2) (fun i hi => ⟨by have := hi.2; omega, .inl hi.1⟩) H.out.2.2.2.2.2.2.2.2.1
                       have e2 := wend (F := F) (R := R) (base := base) hB2 hfw2 hI.2.2 (fun i hi => by
                         rcases hi with hi | hi
                         · exact ⟨by have := hi.2; omega, by rcases hi.1 with h | h; exact .inl h; exact .inr (.inl h)⟩
                         · exact ⟨by omega, .inr (.inr (by omega))⟩) (by have := hI.2.1; rw [← hI.1]; exact this)
                       rw [hl2] at e2 hwe
                       have q0 := blk_cell hB2 0
                       have q1 := blk_cell hB2 1
                       have y0 := blk_frozen hB2 0
                       have y1 := blk_frozen hB2 1
                       have s0 := blk_cell hB0s 0
                       have s1 := blk_cell hB0s 1
                       simp at q0 q1 s0 s1
                       have HE := Lib.hid (And.intro hwe (And.intro e1 e2))
                       clear hwe e1 e2 hI hfw2 hB2 hB0s hl2 I2 hnx hown7 hg7 hat7 hlen7)
          obtain ⟨hwe, _, d0, d1, tv, hfe⟩ := HE.out
          rw [hwe, if_neg h20]
          exact bodyPost_ret (v := .tuple #[.agg #[.int .i64 base, .slice A7 (ws.length + 1) c7], .int .i64 0]) (by simp [results, Try.results34, go_sem, d0, d1]) rfl ⟨_, rfl, tv, hfe⟩
end Go.Proofs.Ytkcppngopdiljaa
/- Laws of layer 14 (tx): written: a transaction, and the document's, of writes. -/
set_option linter.unusedVariables false
set_option linter.unusedSimpArgs false
namespace Go.Proofs.Ytkcppngopdiljaa
open Go.RowKit

/-- An act as a write. -/
def actW (a : Actn) : Wr := ⟨kq (a.key % 30), if a.gone then [] else [a.row], a.gone⟩
def wrAll (ws : List Wr) (l : List Actn) : List Wr := l.foldl (fun ws a => (wwrite ws (actW a)).1) ws
theorem wrAll_snoc (ws : List Wr) (l : List Actn) (a : Actn) : wrAll ws (l ++ [a]) = (wwrite (wrAll ws l) (actW a)).1 := by unfold wrAll; rw [List.foldl_append]; rfl
theorem wwrite_rising {ws : List Wr} {x : Wr} (h : Rising (ws.map Wr.key)) : Rising ((wwrite ws x).1.map Wr.key) := by
  unfold wwrite
  split
  · exact h
  · exact wput_rising h
theorem wwrite_mem {ws : List Wr} {x y : Wr} (h : y ∈ (wwrite ws x).1) : y = x ∨ y ∈ ws := by
  unfold wwrite at h
  split at h
  · exact .inr h
  · exact mem_wput h
structure WsOk (ws : List Wr) : Prop where
  rising : Rising (ws.map Wr.key)
  len : ws.length ≤ 20
  small : ∀ x ∈ ws, x.key.size = 2 ∧ x.row.length ≤ 1
theorem actW_small (a : Actn) : (actW a).key.size = 2 ∧ (actW a).row.length ≤ 1 := by
  unfold actW
  refine ⟨rfl, ?_⟩
  show (if a.gone then [] else [a.row]).length ≤ 1
  split <;> simp
theorem wrAll_ok {ws : List Wr} (h : WsOk ws) (l : List Actn) : WsOk (wrAll ws l) := by
  unfold wrAll
  induction l generalizing ws with
  | nil => exact h
  | cons a l ih =>
    refine ih ⟨wwrite_rising h.rising, wwrite_len h.rising h.len, fun x hx => ?_⟩
    rcases wwrite_mem hx with rfl | hx
    · exact actW_small a
    · exact h.small x hx
theorem nil_ok : WsOk [] := ⟨List.Pairwise.nil, Nat.zero_le _, fun x hx => by cases hx⟩

theorem run_kq_at (w' : World) (b : Nat) (q : UInt8) (hb : w'.heap[b]? = some (.cells #[.int .u8 107, .int .u8 (q.toNat : Int)] 5 (0, 0))) : (convert 27 9 (.slice (some ⟨b, 0, none⟩) 2 2)).run Try.prog w' = .ok (.string (kq q)) w' := by
  have := run_convert_bytes_arg (P := Try.prog) w' 27 5 Try.underlying27 Try.underlying5 b 0 2 2 [107, (q.toNat : Int)] rfl (fun i hi => by
    rw [Nat.zero_add, blk_cell hb i]
    match i, hi with
    | 0, _ => rfl
    | 1, _ => rfl) 9 Try.underlying9
  have hs : strOfNums [107, (q.toNat : Int)] = kq q := by simp [strOfNums, kq]
  rw [hs] at this
  exact this

/-- The document's transaction in a box. -/
structure TxBox (w : World) (F : Nat → Prop) (b : Nat) (base : Int) (ws : List Wr) : Prop where
  box : ∃ A c, w.heap[b]? = some (.cells #[.int .i64 base, .slice A ws.length c] 34 (0, 0)) ∧ ws.length ≤ c ∧ Rd tWr w F A ws
theorem TxBox.fr {S F : Nat → Prop} {w w' : World} {b : Nat} {base : Int} {ws : List Wr} (h : TxBox w F b base ws) (f : Fr S w w') (hb : ¬ S b) (hd : ∀ k, F k → ¬ S k) : TxBox w' F b base ws := by
  obtain ⟨A, c, h1, h2, h3⟩ := h.box
  exact ⟨A, c, f.blk h1 hb, h2, h3.fr f hd⟩
theorem TxBox.fr0 {F : Nat → Prop} {w w' : World} {b : Nat} {base : Int} {ws : List Wr} (h : TxBox w F b base ws) (f : Fr No w w') : TxBox w' F b base ws := h.fr f (fun f => f) fun _ _ f => f

/-- Both, side by side: the transaction's blocks are its own. -/
structure Both (w wr : World) (xb bx : Nat) (base : Int) (ws : List Wr) : Prop where
  sets : ∃ FX FM : Nat → Prop, TxAt wr FX xb base ws ∧ TxBox wr FM bx base ws ∧ (∀ i, FX i → w.heap.size ≤ i ∧ ¬ FM i ∧ i ≠ bx ∧ i < wr.heap.size) ∧ ∀ i, FM i → w.heap.size ≤ i ∧ i ≠ bx ∧ i < wr.heap.size
  fr : Fr No w wr
  low : w.heap.size ≤ bx
theorem Both.fr0 {w wr w' : World} {xb bx : Nat} {base : Int} {ws : List Wr} (h : Both w wr xb bx base ws) (f : Fr No wr w') : Both w w' xb bx base ws := by
  obtain ⟨⟨FX, FM, h1, h2, h3, h4⟩, h5, h6⟩ := h
  have := f.size
  exact ⟨⟨FX, FM, h1.fr0 f, h2.fr0 f, fun i hi => by have := h3 i hi; exact ⟨this.1, this.2.1, this.2.2.1, by omega⟩, fun i hi => by have := h4 i hi; exact ⟨this.1, this.2.1, by omega⟩⟩, h5.trans (f.mono fun _ _ f => f.elim), h6⟩
end Go.Proofs.Ytkcppngopdiljaa
