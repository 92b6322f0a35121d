/- Layer 14 (tx): Put, Del, own. -/
import Derived.Test.YtkcppngopdiljaaTx2
set_option linter.unusedVariables false
set_option linter.unusedSimpArgs false
namespace Go.Proofs.Ytkcppngopdiljaa
open Go.RowKit

theorem wwrite_len {ws : List Wr} {x : Wr} (hr : Rising (ws.map Wr.key)) (h : ws.length ≤ 20) : (wwrite ws x).1.length ≤ 20 := by
  unfold wwrite
  split
  · exact h
  · rename_i hn
    show (wput x ws).length ≤ 20
    rw [wput_length hr]
    split
    · rename_i h1
      have : ¬ 20 ≤ ws.length := fun h2 => hn ⟨h1, h2⟩
      omega
    · exact h
theorem tx_write {w : World} {F R : Nat → Prop} {xb : Nat} {base : Int} {ws : List Wr} {A : Option Addr} {c : Nat} {x : Wr} (h : TxAt w F xb base ws) (hr : Rd Ty.u8 w R A x.row) (hd : ∀ i, R i → ¬ F i) (hn : ws.length ≤ 20) (hc : x.row.length ≤ c) :
    Calls Try.prog 30 #[.pointer (some ⟨xb, 0, none⟩), .agg #[.string x.key, .slice A x.row.length c, .bool x.gone]] w fun e w' => e = .returned (.int .i64 (wwrite ws x).2) ∧ TxAt w' (fun i => F i ∨ R i) xb base (wwrite ws x).1 ∧ Fr F w w' := by
  cases hf : wfind x.key ws with
  | none => exact tx_write_none h hr hd hf hn hc
  | some y =>
    have hwr : wwrite ws x = (wput x ws, 0) := by unfold wwrite; rw [hf]; exact if_neg (by simp)
    rw [hwr]
    exact tx_write_some h hr hd hf hc

theorem tx_put {w : World} {F R : Nat → Prop} {xb : Nat} {base : Int} {ws : List Wr} {A : Option Addr} {n c : Nat} {row : Bs} (key : ByteArray) (h : TxAt w F xb base ws) (hr : Rd Ty.u8 w R A row) (hn : ws.length ≤ 20) (hl : n = row.length) (hl2 : row.length ≤ 140737488355328) :
    Calls Try.prog 12 #[.pointer (some ⟨xb, 0, none⟩), .string key, .slice A n c] w fun e w' => e = .returned (.int .i64 (wwrite ws ⟨key, row, false⟩).2) ∧ TxAt w' (fun i => F i ∨ w.heap.size ≤ i) xb base (wwrite ws ⟨key, row, false⟩).1 ∧ Fr F w w' := by
  have HC := Lib.hid (clone_ok (c := c) hr hl hl2)
  have H := Lib.hid (h.mono fun i hi hl => (⟨hi, hl⟩ : F i ∧ i < w.heap.size))
  clear h hr hl hl2
  go_enter Try.func12, Try.ntmps12
  go_wp2_with fail
  refine HC.out.mono ?_
  rintro e1 w1 ⟨A1, c1, rfl, ho, hf1⟩
  have hwr := tx_write (x := ⟨key, row, false⟩) (c := c1) (H.out.fr0 hf1) ho.rd.2.2 (fun i hi h => by have := h.2; have hi' : w.heap.size ≤ i := hi; omega) hn ho.rd.2.1
  have HW := Lib.hid (And.intro hwr hf1)
  clear hwr ho hf1
  go_wp2_with fail
  refine HW.out.1.mono ?_
  rintro e2 w2 ⟨rfl, ht, hf2⟩
  have HT := Lib.hid (And.intro (ht.mono fun i hi _ => hi.imp (fun h => h.1) id) (HW.out.2.mono (G := F) (fun _ _ f => f.elim) |>.trans (hf2.mono fun i _ hi => .inl hi.1)))
  clear ht hf2
  go_wp2_with fail
  go_ret
  exact ⟨rfl, HT.out⟩
theorem tx_del {w : World} {F : Nat → Prop} {xb : Nat} {base : Int} {ws : List Wr} (key : ByteArray) (h : TxAt w F xb base ws) (hn : ws.length ≤ 20) :
    Calls Try.prog 13 #[.pointer (some ⟨xb, 0, none⟩), .string key] w fun e w' => e = .returned (.int .i64 (wwrite ws ⟨key, [], true⟩).2) ∧ TxAt w' F xb base (wwrite ws ⟨key, [], true⟩).1 ∧ Fr F w w' := by
  have HW := Lib.hid (tx_write (x := ⟨key, [], true⟩) (A := none) (c := 0) (R := No) h Rd.nil (fun i f => f.elim) hn (Nat.le_refl _))
  clear h
  go_enter Try.func13, Try.ntmps13
  go_wp2_with fail
  refine HW.out.mono ?_
  rintro e2 w2 ⟨rfl, ht, hf2⟩
  have HT := Lib.hid (And.intro (ht.mono fun i hi _ => hi.elim id (fun f => f.elim)) hf2)
  clear ht hf2
  go_wp2_with fail
  go_ret
  exact ⟨rfl, HT.out⟩

/-- What own answers. -/
def OwnIs (w' : World) (F : Nat → Prop) (e : Ending) (o : Option Wr) : Prop :=
  ∃ k A n c g, e = .returned (.tuple #[.agg #[.string k, .slice A n c, .bool g], .bool o.isSome]) ∧ ∀ y, o = some y → k = y.key ∧ n = y.row.length ∧ g = y.gone ∧ n ≤ c ∧ Rd Ty.u8 w' F A y.row
set_option maxHeartbeats 1000000 in
set_option maxRecDepth 100000 in
theorem tx_own {w : World} {F : Nat → Prop} {xb : Nat} {base : Int} {ws : List Wr} (key : ByteArray) (h : TxAt w F xb base ws) :
    Calls Try.prog 35 #[.pointer (some ⟨xb, 0, none⟩), .string key] w fun e w' => OwnIs w' F e (wfind key ws) ∧ Fr No w w' := by
  obtain ⟨h1, mb, l, h2, h3, h4, h5, h6⟩ := h
  obtain ⟨W, hW⟩ : ∃ W, W = w.alloc (.cells #[.string ⟨#[]⟩, .slice none 0 0, .bool false] 43) := ⟨_, rfl⟩
  have hfW : Fr No w W := by rw [hW]; exact (Fr.refl No w).alloc _
  have hbW : W.heap[w.heap.size]? = some (.cells #[.string ⟨#[]⟩, .slice none 0 0, .bool false] 43 (0, 0)) := by rw [hW]; exact heap_alloc_new w _
  have a1 := blk_cell (hfW.blk h4 (fun f => f)) 1
  simp at a1
  have hrun := (run_map_look (P := Try.prog) (w := W) (h5.stab (hfW.block _ h5.lt (fun f => f))) 73 _ _ Try.underlying73 Try.underlying9 _ (zero_wr W) key).2
  have hk : ∃ k A n c g, (look key l).getD (.agg #[.string ⟨#[]⟩, .slice none 0 0, .bool false]) = .agg #[.string k, .slice A n c, .bool g] ∧ (look key l).isSome = (wfind key ws).isSome ∧ ∀ y, wfind key ws = some y → k = y.key ∧ n = y.row.length ∧ g = y.gone ∧ n ≤ c ∧ Rd Ty.u8 w F A y.row := by
    cases hf : wfind key ws with
    | none => rw [h6.none_ _ hf]; exact ⟨_, _, _, _, _, rfl, rfl, fun y h => by cases h⟩
    | some y =>
      obtain ⟨v, hl, A, c, rfl, hc, hr⟩ := h6.some_ _ _ hf
      rw [hl]
      exact ⟨_, _, _, _, _, rfl, rfl, fun y' h => by injection h with h; subst h; exact ⟨rfl, rfl, rfl, hc, hr.mono fun i hi _ => hi.1⟩⟩
  obtain ⟨k, A, n, c, g, hv, hs, hy⟩ := hk
  rw [hv, hs] at hrun
  have hb4 := fun (o : Obj) => blk_set (blk_set (blk_set (((Fr.refl No W).alloc o).blk hbW (fun f => f)) 0 (.string k)) 1 (.slice A n c)) 2 (.bool g)
  have z0 := blk_frozen hbW 0
  have z1 := blk_frozen hbW 1
  have z2 := blk_frozen hbW 2
  have b0 := blk_cell hbW 0
  have b1 := blk_cell hbW 1
  have b2 := blk_cell hbW 2
  simp at b0 b1 b2
  have hlW : w.heap.size < W.heap.size := blk_lt hbW
  have c1 := blk_cell h4 1
  simp at c1
  have hxl : xb < w.heap.size := blk_lt h4
  have H := Lib.hid (And.intro hfW (And.intro hy hb4))
  clear h1 h2 h3 h4 h5 h6 hfW hbW hv hs hy hb4
  go_enter Try.func35, Try.ntmps35
  subst hW
  go_wp2_with fail
  have hb := blk_two1 w (.cells #[.string k, .slice A n c, .bool g] 43) (.cells #[.string k, .slice A n c, .bool g] 43)
  have d0 := blk_cell hb 0
  have d1 := blk_cell hb 1
  have d2 := blk_cell hb 2
  simp at d0 d1 d2
  have hff : Fr No w ((w.alloc (.cells #[.string k, .slice A n c, .bool g] 43)).alloc (.cells #[.string k, .slice A n c, .bool g] 43)) := ((Fr.refl No w).alloc _).alloc _
  refine bodyPost_ret (v := .tuple #[.agg #[.string k, .slice A n c, .bool g], .bool (wfind key ws).isSome]) (by simp [results, Try.results35, go_sem, d0, d1, d2]) rfl ⟨⟨k, A, n, c, g, rfl, fun y hy' => ?_⟩, hff⟩
  obtain ⟨e1, e2, e3, e4, e5⟩ := H.out.2.1 y hy'
  exact ⟨e1, e2, e3, e4, e5.fr0 hff⟩
theorem tx_own_nil (key : ByteArray) (w : World) : Calls Try.prog 35 #[.pointer none, .string key] w fun e w' => OwnIs w' No e none ∧ Fr No w w' := by
  go_enter Try.func35, Try.ntmps35
  go_wp2
  have hb := heap_alloc_new w (.cells #[.string ⟨#[]⟩, .slice none 0 0, .bool false] 43)
  have d0 := blk_cell hb 0
  have d1 := blk_cell hb 1
  have d2 := blk_cell hb 2
  simp at d0 d1 d2
  exact bodyPost_ret (v := .tuple #[.agg #[.string ⟨#[]⟩, .slice none 0 0, .bool false], .bool false]) (by simp [results, Try.results35, go_sem, d0, d1, d2]) rfl ⟨⟨_, _, _, _, _, rfl, fun y h => by cases h⟩, (Fr.refl No w).alloc _⟩
end Go.Proofs.Ytkcppngopdiljaa
