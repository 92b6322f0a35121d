/- Reference 13 (store): Apply. -/
import Derived.Test.YtkcppngopdiljaaRef13d
import Derived.Test.YtkcppngopdiljaaSpec13b
import Derived.Test.YtkcppngopdiljaaRef06
import Derived.Test.YtkcppngopdiljaaRef1b
import Derived.Deep.RegionLaw
import Derived.Deep.DeepCutAuto
import Derived.Deep.RegionHeld3
import Derived.BigQuiet
import Derived.BigRegion
set_option linter.unusedVariables false
set_option linter.unusedSimpArgs false
namespace Go.Proofs.Ytkcppngopdiljaa
open Go.RowKit

/-- What stands while the document's Apply goes on: its three boxes at w's end. -/
structure RBox (w wr : World) (A B D : Option Addr) (c d e : Nat) (s : Sto) (n : Int) (ws : List Wr) : Prop where
  b0 : wr.heap[w.heap.size]? = some (.cells #[.slice A s.kc.length c, .slice B s.kc.length d, .int .i64 s.now] 55 (0, 0))
  b1 : wr.heap[w.heap.size + 1]? = some (.cells #[.int .i64 n, .slice D ws.length e] 40 (0, 0))
  b2 : wr.heap[w.heap.size + 2]? = some (.cells #[.slice none 0 0, .slice none 0 0, .int .i64 0] 55 (0, 0))
  fr : Fr No w wr
theorem RBox.step {w wr w' : World} {A B D : Option Addr} {c d e : Nat} {s : Sto} {n : Int} {ws : List Wr} (h : RBox w wr A B D c d e s n ws) {S : Nat → Prop} (f : Fr S wr w') (hS : ∀ i, S i → w.heap.size + 2 < i) : RBox w w' A B D c d e s n ws :=
  ⟨f.blk h.b0 (fun h => by have := hS _ h; omega), f.blk h.b1 (fun h => by have := hS _ h; omega), f.blk h.b2 (fun h => by have := hS _ h; omega), h.fr.trans (f.mono fun i _ hi => .inr (by have := hS _ hi; omega))⟩
theorem RBox.fr0 {w wr w' : World} {A B D : Option Addr} {c d e : Nat} {s : Sto} {n : Int} {ws : List Wr} (h : RBox w wr A B D c d e s n ws) (f : Fr No wr w') : RBox w w' A B D c d e s n ws := h.step f fun _ f => f.elim
theorem RBox.size {w wr : World} {A B D : Option Addr} {c d e : Nat} {s : Sto} {n : Int} {ws : List Wr} (h : RBox w wr A B D c d e s n ws) : w.heap.size + 3 ≤ wr.heap.size := blk_lt h.b2

/-- What stands behind the new store's making: its keys; its block bo. -/
structure ROut (w wr wx : World) (A B D : Option Addr) (c d e : Nat) (s : Sto) (n : Int) (ws : List Wr) (K : List ByteArray) (bo : Nat) : Prop where
  box : RBox w wx A B D c d e s n ws
  lt : w.heap.size + 2 < bo
  out : ∃ A5 c5, wx.heap[bo]? = some (.cells #[.slice A5 K.length c5, .slice none 0 0, .int .i64 n] 55 (0, 0)) ∧ K.length ≤ c5 ∧ Rd Ty.str wx (fun i => wr.heap.size ≤ i ∧ i ≠ bo) A5 K

theorem rout_before {w wr w0 w5 : World} {A B D A5 : Option Addr} {c d e c5 : Nat} {s : Sto} {n : Int} {ws : List Wr} {K : List ByteArray} (hB : RBox w wr A B D c d e s n ws) (hw0 : Fr No wr w0) (hs0 : wr.heap.size + 1 ≤ w0.heap.size)
    (hb : w0.heap[wr.heap.size]? = some (.cells #[.slice none 0 0, .slice none 0 0, .int .i64 0] 55 (0, 0))) (ho : Ow Ty.str 9 w5 (fun k => w0.heap.size ≤ k) (.slice A5 K.length c5) K) (hf : Fr No w0 w5) :
    ROut w wr (((w5.setCell ⟨wr.heap.size, 0, none⟩ (.slice A5 K.length c5)).setCell ⟨wr.heap.size, 1, none⟩ (.slice none 0 0)).setCell ⟨wr.heap.size, 2, none⟩ (.int .i64 n)) A B D c d e s n ws K wr.heap.size := by
  have hsz := hB.size
  have h5 : Fr No wr w5 := hw0.trans (hf.mono fun _ _ f => f.elim)
  have hb4 := blk_set (blk_set (blk_set (hf.blk hb (fun f => f)) 0 (.slice A5 K.length c5)) 1 (.slice none 0 0)) 2 (.int .i64 n)
  have hn : ¬ (w0.heap.size ≤ wr.heap.size) := by omega
  have ho2 := ((ho.set ⟨wr.heap.size, 0, none⟩ hn (.slice A5 K.length c5)).set ⟨wr.heap.size, 1, none⟩ hn (.slice none 0 0)).set ⟨wr.heap.size, 2, none⟩ hn (.int .i64 n)
  have h6 : Fr (fun i => i = wr.heap.size) wr w5 := h5.mono fun _ _ f => f.elim
  have h7 := ((h6.set ⟨wr.heap.size, 0, none⟩ (.inl rfl) (.slice A5 K.length c5)).set ⟨wr.heap.size, 1, none⟩ (.inl rfl) (.slice none 0 0)).set ⟨wr.heap.size, 2, none⟩ (.inl rfl) (.int .i64 n)
  refine ⟨hB.step h7 (fun i e => by omega), by omega, A5, c5, by simpa using hb4, ho2.rd.2.1, ho2.rd.2.2.mono fun i hi _ => ?_⟩
  have hi' : w0.heap.size ≤ i := hi
  exact ⟨by omega, by omega⟩
theorem rout_behind {w wr w0 w5 : World} {A B D A5 : Option Addr} {c d e c5 : Nat} {s : Sto} {n : Int} {ws : List Wr} {K : List ByteArray} (hB : RBox w wr A B D c d e s n ws) (hw0 : Fr No wr w0)
    (ho : Ow Ty.str 9 w5 (fun k => w0.heap.size ≤ k) (.slice A5 K.length c5) K) (hf : Fr No w0 w5) :
    ROut w wr (w5.alloc (.cells #[.slice A5 K.length c5, .slice none 0 0, .int .i64 n] 55)) A B D c d e s n ws K w5.heap.size := by
  have hsz := hB.size
  have h5 : Fr No wr w5 := hw0.trans (hf.mono fun _ _ f => f.elim)
  have hs0 := hw0.size
  have hs5 := h5.size
  have ho2 := ho.fr0 ((Fr.refl No w5).alloc (.cells #[.slice A5 K.length c5, .slice none 0 0, .int .i64 n] 55))
  refine ⟨hB.fr0 (h5.alloc _), by omega, A5, c5, heap_alloc_new w5 _, ho2.rd.2.1, ((ho.rd.2.2.mono fun i hi hl => (⟨hi, hl⟩ : w0.heap.size ≤ i ∧ i < w5.heap.size)).fr0 ((Fr.refl No w5).alloc _)).mono fun i hi _ => ⟨by have := hi.1; omega, by have := hi.2; omega⟩⟩


theorem nodup_not_take {α : Type} {l : List α} (h : l.Nodup) {i : Nat} (hi : i < l.length) : l[i] ∉ l.take i := by
  intro hm
  obtain ⟨j, hj, e⟩ := List.getElem_of_mem hm
  rw [List.getElem_take] at e
  rw [List.length_take] at hj
  exact List.pairwise_iff_getElem.1 h j i (by omega) hi (by omega) e

/-- What stands in the inner loop: a key's chain in a box of its own. -/
structure RChn (w wr wx : World) (F : Nat → Prop) (c : Chn) (b : Nat) : Prop where
  lt : wr.heap.size ≤ b
  fr : Fr No wr wx
  box : ∃ A' c', wx.heap[b]? = some (.cells #[.slice A' c.l.length c', .int .i64 c.last] 119 (0, 0)) ∧ c.l.length ≤ c' ∧ Rd tVer wx (fun i => (F i ∧ i < w.heap.size) ∨ (wr.heap.size ≤ i ∧ i ≠ b)) A' c.l
theorem RChn.fr0 {w wr wx w' : World} {F : Nat → Prop} {c : Chn} {b : Nat} (h : RChn w wr wx F c b) (f : Fr No wx w') : RChn w wr w' F c b := by
  obtain ⟨h1, h2, A', c', h3, h4, h5⟩ := h
  exact ⟨h1, h2.trans (f.mono fun _ _ f => f.elim), A', c', f.blk h3 (fun f => f), h4, h5.fr0 f⟩
/-- The box is made ahead of the call, or behind it. -/
theorem rchn_before {w wr w0 w6 : World} {F : Nat → Prop} {c : Chn} {A' : Option Addr} {c' : Nat} (hw : w.heap.size ≤ wr.heap.size) (hw0 : Fr No wr w0) (hb : w0.heap[wr.heap.size]? = some (.cells #[.slice none 0 0, .int .i64 0] 119 (0, 0)))
    (hf : Fr No w0 w6) (hc : c.l.length ≤ c') (hr : Rd tVer w6 (fun i => F i ∧ i < w.heap.size) A' c.l) :
    RChn w wr ((w6.setCell ⟨wr.heap.size, 0, none⟩ (.slice A' c.l.length c')).setCell ⟨wr.heap.size, 1, none⟩ (.int .i64 c.last)) F c wr.heap.size := by
  have h6 : Fr No wr w6 := hw0.trans (hf.mono fun _ _ f => f.elim)
  have hb6 := blk_set (blk_set (hf.blk hb (fun f => f)) 0 (.slice A' c.l.length c')) 1 (.int .i64 c.last)
  have hn : ¬ (F wr.heap.size ∧ wr.heap.size < w.heap.size) := fun h => by have := h.2; omega
  exact ⟨Nat.le_refl _, (h6.set ⟨wr.heap.size, 0, none⟩ (.inr (Nat.le_refl _)) _).set ⟨wr.heap.size, 1, none⟩ (.inr (Nat.le_refl _)) _, A', c', by simpa using hb6, hc, ((hr.set2 ⟨wr.heap.size, 0, none⟩ hn _).set2 ⟨wr.heap.size, 1, none⟩ hn _).mono fun i hi _ => .inl hi⟩
theorem rchn_behind {w wr w0 w6 : World} {F : Nat → Prop} {c : Chn} {A' : Option Addr} {c' : Nat} (hw0 : Fr No wr w0)
    (hf : Fr No w0 w6) (hc : c.l.length ≤ c') (hr : Rd tVer w6 (fun i => F i ∧ i < w.heap.size) A' c.l) :
    RChn w wr (w6.alloc (.cells #[.slice A' c.l.length c', .int .i64 c.last] 119)) F c w6.heap.size := by
  have h6 : Fr No wr w6 := hw0.trans (hf.mono fun _ _ f => f.elim)
  exact ⟨h6.size, h6.alloc _, A', c', heap_alloc_new w6 _, hc, (hr.fr0 ((Fr.refl No w6).alloc _)).mono fun i hi _ => .inl hi⟩
/-- Another chain is laid into the box. -/
theorem RChn.put {w wr wx w2 : World} {F G : Nat → Prop} {c c2 : Chn} {b : Nat} {A' : Option Addr} {c' : Nat} (h : RChn w wr wx F c b) (f : Fr No wx w2) (hc : c2.l.length ≤ c') (hr : Rd tVer w2 G A' c2.l) (hG : ∀ i, G i → (F i ∧ i < w.heap.size) ∨ (wr.heap.size ≤ i ∧ i ≠ b)) (hw : w.heap.size ≤ wr.heap.size) :
    RChn w wr ((w2.setCell ⟨b, 0, none⟩ (.slice A' c2.l.length c')).setCell ⟨b, 1, none⟩ (.int .i64 c2.last)) F c2 b := by
  obtain ⟨h1, h2, A0, c0, h3, h4, h5⟩ := h
  have h6 : Fr No wr w2 := h2.trans (f.mono fun _ _ f => f.elim)
  have hb6 := blk_set (blk_set (f.blk h3 (fun f => f)) 0 (.slice A' c2.l.length c')) 1 (.int .i64 c2.last)
  have hn : ¬ G b := fun h => by
    rcases hG _ h with h | h
    · have := h.2; omega
    · exact h.2 rfl
  exact ⟨h1, (h6.set ⟨b, 0, none⟩ (.inr h1) _).set ⟨b, 1, none⟩ (.inr h1) _, A', c', by simpa using hb6, hc, ((hr.set2 ⟨b, 0, none⟩ hn _).set2 ⟨b, 1, none⟩ hn _).mono fun i hi _ => hG i hi⟩

/-- What stands at the outer loop's head: so many chains lie in the new store. -/
structure RAppI (w wc wr : World) (F : Nat → Prop) (s : Sto) (n : Int) (ws : List Wr) (K : List ByteArray) (A5 : Option Addr) (c5 bo k : Nat) (v : Value) : Prop where
  le : k ≤ K.length
  blk : wr.heap[bo]? = some (.cells #[.slice A5 K.length c5, v, .int .i64 n] 55 (0, 0))
  own : Ow tChn 119 wr (fun i => (F i ∧ i < w.heap.size) ∨ wc.heap.size ≤ i) v ((K.take k).map fun k => upd n ws k (s.of k))
  box : ∀ j, v.ownBlock = some j → wc.heap.size ≤ j
  fr : Fr (fun i => i = bo) wc wr

theorem rapp_next {w wc wr wx w3 : World} {F : Nat → Prop} {s : Sto} {n : Int} {ws : List Wr} {K : List ByteArray} {A5 A3 : Option Addr} {c5 c3 bo k b : Nat} {v : Value} {x : Chn} {o : Obj} (hbo : bo < wc.heap.size) (hbw : w.heap.size ≤ bo)
    (I : RAppI w wc wr F s n ws K A5 c5 bo k v) (hx : RChn w wr wx F x b) (ho : Ow tChn 119 w3 (fun i => ((F i ∧ i < w.heap.size) ∨ wc.heap.size ≤ i) ∨ (wx.alloc o).heap.size ≤ i) (.slice A3 (k + 1) c3) (((K.take k).map fun k => upd n ws k (s.of k)) ++ [x]))
    (hg : (wx.alloc o).grownBy w3 v.ownBlock) (hat : (Value.slice A3 (k + 1) c3).ownBlock = v.ownBlock ∨ (Value.slice A3 (k + 1) c3).ownBlock = some (wx.alloc o).heap.size) :
    w3.heap[bo]? = some (.cells #[.slice A5 K.length c5, v, .int .i64 n] 55 (0, 0)) ∧
    (w3.setCell ⟨bo, 1, none⟩ (.slice A3 (k + 1) c3)).heap[bo]? = some (.cells #[.slice A5 K.length c5, .slice A3 (k + 1) c3, .int .i64 n] 55 (0, 0)) ∧
    Ow tChn 119 (w3.setCell ⟨bo, 1, none⟩ (.slice A3 (k + 1) c3)) (fun i => (F i ∧ i < w.heap.size) ∨ wc.heap.size ≤ i) (.slice A3 (k + 1) c3) (((K.take k).map fun k => upd n ws k (s.of k)) ++ [x]) ∧
    (∀ j, (Value.slice A3 (k + 1) c3).ownBlock = some j → wc.heap.size ≤ j) ∧ Fr (fun i => i = bo) wc (w3.setCell ⟨bo, 1, none⟩ (.slice A3 (k + 1) c3)) := by
  have hwr := I.fr.size
  have hxs := hx.fr.size
  have hb2 : (wx.alloc o).heap[bo]? = some (.cells #[.slice A5 K.length c5, v, .int .i64 n] 55 (0, 0)) := ((hx.fr).alloc o).blk I.blk (fun f => f)
  have hb3 := (hg.block bo (blk_lt hb2) (fun e => by have := I.box _ e.symm; omega)).trans hb2
  have hb4 := blk_set hb3 1 (.slice A3 (k + 1) c3)
  have hn : ¬ (((F bo ∧ bo < w.heap.size) ∨ wc.heap.size ≤ bo) ∨ (wx.alloc o).heap.size ≤ bo) := by simp; omega
  refine ⟨hb3, by simpa using hb4, (ho.set ⟨bo, 1, none⟩ hn _).mono fun i hi _ => ?_, fun j hj => ?_, ?_⟩
  · rcases hi with hi | hi
    · exact hi
    · simp at hi; exact .inr (by omega)
  · rcases hat with hat | hat
    · exact I.box j (by rw [← hat]; exact hj)
    · rw [hj] at hat; injection hat with hat; simp at hat; omega
  · have h1 : Fr (fun i => i = bo) wc (wx.alloc o) := (I.fr.trans (hx.fr.mono fun _ _ f => f.elim)).alloc o
    have h3 : Fr (fun i => i = bo) wc w3 := h1.grown hg fun j hj => .inr (I.box j hj)
    exact h3.set _ (.inl rfl) _

theorem Sto.Fine.last_le {s : Sto} {m : Nat} (h : s.Fine m) (k : ByteArray) : (s.of k).last ≤ s.now := by
  unfold Sto.of
  cases hl : look k s.kc with
  | none => exact h.small.now0
  | some c => exact (h.small.chains _ (look_mem hl)).2.1

theorem cell_set2 {w : World} {a : Addr} {v : Value} (h : w.cell? a = some v) {g : Nat} (hg : a.block < g) (u1 u2 : Value) : ((w.setCell ⟨g, 0, none⟩ u1).setCell ⟨g, 1, none⟩ u2).cell? a = some v :=
  (World.cell?_of_block ((Below.heap_setCell _ _ _ _ (by show a.block ≠ g; omega)).trans (Below.heap_setCell _ _ _ _ (by show a.block ≠ g; omega)))).trans h

set_option maxHeartbeats 4000000 in
set_option maxRecDepth 100000 in
theorem ref_apply_ok {w : World} {F R : Nat → Prop} {v : Value} {s : Sto} {m : Nat} {D : Option Addr} {e : Nat} {ws : List Wr} (h : StoVal w F v s) (hs : s.Fine m) (hm : m ≤ 100000000) (hR : Rd tWr w R D ws) (hok : right (s.now + 1) ws = true) :
    Calls Try.prog 39 #[v, .agg #[.int .i64 (s.now + 1), .slice D ws.length e]] w fun e w' => ∃ u, e = .returned (.tuple #[u, .int .i64 0]) ∧ StoVal w' (fun i => F i ∨ w.heap.size ≤ i) u ⟨ws.foldl (Sto.put1 (s.now + 1)) s.kc, s.now + 1⟩ ∧ Fr No w w' := by
  obtain ⟨A, c, B, d, rfl, h1, h2, h3, h4⟩ := h
  have hlen : ws.length ≤ 64 := by
    unfold right at hok
    simp only [Bool.and_eq_true, decide_eq_true_eq] at hok
    exact hok.2.2
  have hfit : allFit ⟨#[]⟩ ws = true := by
    unfold right at hok
    simp only [Bool.and_eq_true] at hok
    exact hok.1
  have hkl : (s.kc.length : Int) ≤ 100000000 := by have := hs.small.keys; omega
  have hn0 := hs.small.now0
  have hn1 : s.now ≤ 100000000 := by have := hs.small.now1; omega
  have hright := fun w' (f : Fr No w w') => ref_right (w := w') (s.now + 1) D e ws (hR.fr0 f) (by omega) (fun x hx => by have := allFit_mem hfit x hx; omega)
  rw [hok] at hright
  obtain ⟨W, hW⟩ : ∃ W, W = ((w.alloc (.cells #[.slice A s.kc.length c, .slice B s.kc.length d, .int .i64 s.now] 55)).alloc (.cells #[.int .i64 (s.now + 1), .slice D ws.length e] 40)).alloc (.cells #[.slice none 0 0, .slice none 0 0, .int .i64 0] 55) := ⟨_, rfl⟩
  have hB : RBox w W A B D c d e s (s.now + 1) ws := ⟨by rw [hW]; exact blk_three1 .., by rw [hW]; exact blk_three2 .., by rw [hW]; exact blk_three3 .., by rw [hW]; exact (((Fr.refl No w).alloc _).alloc _).alloc _⟩
  have H := Lib.hid (And.intro h1 (And.intro h2 (And.intro (h3.mono fun i hi hl => (⟨hi, hl⟩ : F i ∧ i < w.heap.size)) (And.intro (h4.mono fun i hi hl => (⟨hi, hl⟩ : F i ∧ i < w.heap.size)) (And.intro hs (And.intro (hR.mono fun i hi hl => (⟨hi, hl⟩ : R i ∧ i < w.heap.size)) (And.intro hfit hlen)))))))
  have HR := Lib.hid (And.intro (hright W hB.fr) hB)
  clear h1 h2 h3 h4 hs hR hfit hlen hright hB hok
  go_enter Try.func39, Try.ntmps39
  go_wp2_with fail
  rw [← hW]
  clear hW
  refine HR.out.1.mono ?_
  rintro e1 w1 ⟨rfl, hf1⟩
  have hB1 := HR.out.2.fr0 hf1
  have a0 := blk_cell hB1.b0 0
  have a2 := blk_cell hB1.b0 2
  have a3 := blk_cell hB1.b1 0
  have a4 := blk_cell hB1.b1 1
  simp at a0 a2 a3 a4
  have HB1 := Lib.hid hB1
  clear hf1 hB1 HR
  go_wp2_with (at_builtin; refine ow_append Ty.str (Ow.nil (F := fun i => w.heap.size + 2 < i)) _ _ (.string ⟨#[]⟩) 16 rfl rfl Try.underlying52 info_str rfl (by decide) (by decide) rfl rfl (by rw [List.length_map]) ((H.out.2.2.1.fr0 HB1.out.fr).at.choose_spec.1.imp fun _ _ h => h) (H.out.2.2.1.fr0 HB1.out.fr).at.choose_spec.2 (by simp; omega) ?_
               intro A2 c2 w2 hown2 hg2 hat2
               simp only [List.length_nil, Nat.zero_add, List.nil_append, List.length_map] at hown2 ⊢
               have hf2 : Fr No w1 w2 := (Fr.refl No w1).grown hg2 fun k hk => by simp [Value.ownBlock] at hk
               have hB2 := HB1.out.fr0 hf2
               have hown3 : Ow Ty.str 9 w2 (fun i => w.heap.size + 2 < i) (.slice A2 s.kc.length c2) (s.kc.map Prod.fst) := hown2.mono fun i hi _ => by
                 rcases hi with hi | hi
                 · exact hi
                 · have := HB1.out.size; show w.heap.size + 2 < i; omega
               have H2 := Lib.hid (And.intro hown3 hB2)
               clear hown2 hg2 hat2 hf2 hB2 hown3)
  go_loopw [6, 7] (fun v i wr => ∃ (k : Nat) (A3 : Option Addr) (c3 : Nat), k ≤ ws.length ∧ i = .int .i64 k ∧ v = .slice A3 (s.kc.length + k) c3 ∧ Hid (Ow Ty.str 9 wr (fun i => w.heap.size + 2 < i) (.slice A3 (s.kc.length + k) c3) (s.kc.map Prod.fst ++ (ws.take k).map Wr.key)) ∧ Hid (RBox w wr A B D c d e s (s.now + 1) ws)) (fun _ i _ => ws.length - (intOf i).toNat)
  case atStart => exact ⟨0, A2, c2, Nat.zero_le _, rfl, rfl, by show Ow _ _ _ _ _ _; simpa using H2.out.1, H2.out.2⟩
  case round =>
    obtain ⟨k, A3, c3, hk, rfl, rfl, hO, hB⟩ := hrel
    have hq0 : (0 : Int) ≤ (k : Int) := Int.natCast_nonneg _
    have hl64 : (ws.length : Int) ≤ 64 := by have := H.out.2.2.2.2.2.2.2; omega
    have a0 := blk_cell hB.out.b0 0
    have a1 := blk_cell hB.out.b0 1
    have a2 := blk_cell hB.out.b0 2
    have a3 := blk_cell hB.out.b1 0
    have a4 := blk_cell hB.out.b1 1
    simp at a0 a1 a2 a3 a4
    by_cases hlt : k < ws.length
    · have hq1 : (k : Int) < (ws.length : Int) := by omega
      obtain ⟨ad, A', c', rfl, x0, _, _, _, _⟩ := wr_at (H.out.2.2.2.2.2.1.fr0 hB.out.fr) hlt
      have htk : (ws.take (k + 1)).map Wr.key = (ws.take k).map Wr.key ++ [ws[k].key] := by rw [List.take_succ_eq_append_getElem hlt, List.map_append]; rfl
      have hlk : (s.kc.map Prod.fst ++ (ws.take k).map Wr.key).length = s.kc.length + k := by rw [List.length_append, List.length_map, List.length_map, List.length_take]; omega
      have HT := Lib.hid (And.intro htk hlk)
      clear htk hlk
      generalize ws[k].key = x at *
      go_wp2_with (at_builtin; refine ow_append Ty.str (ys := [x]) (hO.out.fr0 ((Fr.refl No wr).alloc _)) _ _ (.string ⟨#[]⟩) 16 rfl rfl Try.underlying52 info_str rfl (by decide) (by decide) rfl rfl rfl (Row.single (t := Ty.str) (x := x) (c := [.string x]) rfl) (At.block (heap_alloc_new _ _)) (by rw [HT.out.2]; simp; omega) ?_
                   intro A4 c4 w4 hown4 hg4 hat4
                   have hlen4 : _ + [x].length = s.kc.length + (k + 1) := congrArg (· + 1) HT.out.2
                   rw [hlen4] at hown4 ⊢
                   have hown5 : Ow Ty.str 9 w4 (fun i => w.heap.size + 2 < i) (.slice A4 (s.kc.length + (k + 1)) c4) ((s.kc.map Prod.fst ++ (ws.take k).map Wr.key) ++ [x]) := hown4.mono fun i hi _ => by
                     rcases hi with hi | hi
                     · exact hi
                     · have := hB.out.size; simp at hi; show w.heap.size + 2 < i; omega
                   have hB4 : RBox w w4 A B (some ad) c d e s (s.now + 1) ws := (hB.out.fr0 ((Fr.refl No wr).alloc _)).step ((Fr.refl (fun i => some i = (Value.slice A3 (s.kc.length + k) c3).ownBlock) _).grown hg4 fun j hj => .inl hj.symm) fun i hi => (hO.out.own hi.symm).1
                   have H4 := Lib.hid (And.intro hown5 hB4)
                   clear hown4 hg4 hat4 hlen4 hown5 hB4)
      go_roundw
      case rel => exact ⟨k + 1, A4, c4, by omega, by go_num, rfl, by rw [HT.out.1, ← List.append_assoc]; exact H4.out.1, H4.out.2⟩
      case measure => simp [intOf]; omega
    · obtain rfl : k = ws.length := by omega
      rw [List.take_length] at hO
      have hlk : (s.kc.map Prod.fst ++ ws.map Wr.key).length = s.kc.length + ws.length := by rw [List.length_append, List.length_map, List.length_map]
      have hrise := fun w' (f : Fr No wr w') => ref_rise (cp := c3) (hO.out.rd.2.2.fr0 f) (by rw [hlk]; omega)
      rw [hlk] at hrise
      have HRise := Lib.hid hrise
      clear hrise hlk
      have a3a := fun o => cell_alloc a3 o
      go_wp2_with fail
      go_cut [8] (fun s8 wx => ∃ bo : Nat, s8 = .pointer (some ⟨bo, 0, none⟩) ∧ Hid (ROut w wr wx A B D c d e s (s.now + 1) ws (rise (s.kc.map Prod.fst ++ ws.map Wr.key)) bo))
      case first =>
        go_region_law
          (first
            | (go_simp; go_at_call 51; refine (HRise.out _ (by repeat (first | exact Fr.refl _ _ | apply Fr.alloc | apply Fr.drew | apply Fr.drewN))).mono ?_; rintro e5 w5 ⟨A5, c5, rfl, ho5, hf5⟩
               have k0 : w5.cell? ⟨w.heap.size + 1, 0, none⟩ = some (.int .i64 (s.now + 1)) := hf5.cell (by first | exact a3 | exact cell_alloc a3 _) (fun f => f)
               have k0a := fun o => cell_alloc k0 o
               first
                 | (have bN : w5.heap[wr.heap.size]? = some (.cells #[.slice none 0 0, .slice none 0 0, .int .i64 0] 55 (0, 0)) := hf5.blk (heap_alloc_new _ _) (fun f => f)
                    have n0 := blk_cell bN 0
                    have n1 := blk_cell bN 1
                    have n2 := blk_cell bN 2
                    have y0 := blk_frozen bN 0
                    have y1 := blk_frozen bN 1
                    have y2 := blk_frozen bN 2
                    simp at n0 n1 n2)
                 | skip
               have H5 := Lib.hid (And.intro ho5 hf5)
               clear ho5 hf5))
        all_goals go_wp2_with fail
        all_goals go_meet
        all_goals first
          | exact ⟨_, rfl, rout_behind hB.out (by repeat (first | exact Fr.refl _ _ | apply Fr.alloc | apply Fr.drew | apply Fr.drewN)) H5.out.1 H5.out.2⟩
          | (refine ⟨_, rfl, rout_before hB.out ?_ ?_ ?_ H5.out.1 H5.out.2⟩
             · repeat (first | exact Fr.refl _ _ | apply Fr.alloc | apply Fr.drew | apply Fr.drewN)
             · simp
             · exact heap_alloc_new wr _)
      case rest =>
        obtain ⟨bo, rfl, HO1⟩ := hcut
        obtain ⟨hBx, hlb, A5, c5, hbo, hK5, hrK⟩ := HO1.out
        obtain ⟨K, hKe⟩ : ∃ K, rise (s.kc.map Prod.fst ++ ws.map Wr.key) = K := ⟨_, rfl⟩
        rw [hKe] at hbo hK5 hrK HO1
        have hKl : K.length ≤ 100000064 := by
          rw [← hKe]
          have := rise_length (s.kc.map Prod.fst ++ ws.map Wr.key)
          rw [List.length_append, List.length_map, List.length_map] at this
          omega
        have HK := Lib.hid (And.intro hKe (And.intro hBx (And.intro hbo (And.intro hK5 (hrK.mono fun i hi hl => (⟨hi, hl⟩ : (wr.heap.size ≤ i ∧ i ≠ bo) ∧ i < wc.heap.size))))))
        clear hKe hBx hbo hK5 hrK HO1 HRise H2 HB1 a0 a1 a2 a3 a4 a3a
        have hbw : w.heap.size ≤ bo := by omega
        have hbc : bo < wc.heap.size := blk_lt HK.out.2.2.1
        have hKi : (K.length : Int) ≤ 100000064 := by omega
        go_wp2_with fail
        go_loopw [9] (fun i wo => ∃ (q : Nat) (v : Value), i = .int .i64 q ∧ Hid (RAppI w wc wo F s (s.now + 1) ws K A5 c5 bo q v)) (fun i _ => K.length - (intOf i).toNat)
        case atStart => exact ⟨0, .slice none 0 0, rfl, ⟨Nat.zero_le _, HK.out.2.2.1, by simpa using Ow.nil, fun j hj => by simp [Value.ownBlock] at hj, Fr.refl _ _⟩⟩
        case round =>
          obtain ⟨wo, hwo⟩ : ∃ wo, wo = wr := ⟨_, rfl⟩
          subst hwo
          obtain ⟨q, v, rfl, I⟩ := hrel
          obtain ⟨A2, cv, rfl, hc2, hr2⟩ := I.out.own.slice
          clear hc2 hr2
          have hlk : ((K.take q).map fun k => upd (s.now + 1) ws k (s.of k)).length = q := by rw [List.length_map, List.length_take]; have := I.out.le; omega
          rw [hlk] at I
          have HLk := Lib.hid hlk
          clear hlk
          have hBx := HK.out.2.1.step I.out.fr (fun i e => by omega)
          have a0 := blk_cell hBx.b0 0
          have a1 := blk_cell hBx.b0 1
          have a2 := blk_cell hBx.b0 2
          have n0 := blk_cell I.out.blk 0
          have n1 := blk_cell I.out.blk 1
          have n2 := blk_cell I.out.blk 2
          simp at a0 a1 a2 n0 n1 n2
          have HBx := Lib.hid hBx
          clear hBx
          have hq0 : (0 : Int) ≤ (q : Int) := Int.natCast_nonneg _
          by_cases hlt : q < K.length
          · have hq1 : (q : Int) < (K.length : Int) := by omega
            obtain ⟨adk, rfl, x0⟩ := str_at (HK.out.2.2.2.2.fr I.out.fr fun i hi e => hi.1.2 e) hlt
            obtain ⟨key, hkey⟩ : ∃ key, K[q] = key := ⟨_, rfl⟩
            rw [hkey] at x0
            have htk : (K.take (q + 1)).map (fun k => upd (s.now + 1) ws k (s.of k)) = (K.take q).map (fun k => upd (s.now + 1) ws k (s.of k)) ++ [upd (s.now + 1) ws key (s.of key)] := by rw [List.take_succ_eq_append_getElem hlt, List.map_append, hkey]; rfl
            have hof := fun w' (f : Fr No wo w') => ref_of (w := w') (F := fun i => F i ∧ i < w.heap.size) (s := s) key ⟨A, c, B, d, rfl, H.out.1, H.out.2.1, (H.out.2.2.1.fr0 HBx.out.fr).fr0 f, (H.out.2.2.2.1.fr0 HBx.out.fr).fr0 f⟩ (by omega) H.out.2.2.2.2.1.rising
            have hokc := H.out.2.2.2.2.1.ok key
            have hlast := H.out.2.2.2.2.1.last_le key
            have HX := Lib.hid (And.intro htk (And.intro hof (And.intro hokc hlast)))
            clear htk hof hokc hlast hkey
            go_wp2_with fail
            go_cut [10] (fun s10 wx => ∃ b : Nat, s10 = .pointer (some ⟨b, 0, none⟩) ∧ Hid (RChn w wo wx F (s.of key) b))
            case first =>
              go_region_held3 (fun w' => w'.cell? ⟨w.heap.size, 0, none⟩ = some (.slice A s.kc.length c) ∧ w'.cell? ⟨w.heap.size, 1, none⟩ = some (.slice B s.kc.length d) ∧ w'.cell? ⟨w.heap.size, 2, none⟩ = some (.int .i64 s.now) ∧
                  w'.cell? ⟨bo, 0, none⟩ = some (.slice (some adk) K.length c5) ∧ w'.cell? (adk.add q) = some (.string key))
                (first
                  | exact ⟨a0, a1, a2, n0, x0⟩
                  | exact ⟨cell_alloc a0 _, cell_alloc a1 _, cell_alloc a2 _, cell_alloc n0 _, cell_alloc x0 _⟩
                  | exact ⟨q0, q1, q2, q3, q4⟩
                  | exact ⟨cell_set2 q0 (World.block_lt_of_cell? wo _ a0) _ _, cell_set2 q1 (World.block_lt_of_cell? wo _ a1) _ _, cell_set2 q2 (World.block_lt_of_cell? wo _ a2) _ _, cell_set2 q3 (World.block_lt_of_cell? wo _ n0) _ _, cell_set2 q4 (World.block_lt_of_cell? wo _ x0) _ _⟩
                  | exact ⟨cell_alloc q0 _, cell_alloc q1 _, cell_alloc q2 _, cell_alloc q3 _, cell_alloc q4 _⟩)
                (first
                  | (go_at_call 61; refine (HX.out.2.1 _ (by repeat (first | exact Fr.refl _ _ | apply Fr.alloc | apply Fr.drew | apply Fr.drewN))).mono ?_; rintro e6 w6 ⟨u6, rfl, ⟨A6, c6, rfl, hc6, hr6⟩, hf6⟩
                     have hg6 : Fr No wo w6 := Fr.trans (by repeat (first | exact Fr.refl _ _ | apply Fr.alloc | apply Fr.drew | apply Fr.drewN)) (hf6.mono fun _ _ f => f.elim)
                     have q0 := hg6.cell a0 (fun f => f)
                     have q1 := hg6.cell a1 (fun f => f)
                     have q2 := hg6.cell a2 (fun f => f)
                     have q3 := hg6.cell n0 (fun f => f)
                     have q4 := hg6.cell x0 (fun f => f)
                     first
                       | (have bN : w6.heap[wo.heap.size]? = some (.cells #[.slice none 0 0, .int .i64 0] 119 (0, 0)) := hf6.blk (heap_alloc_new _ _) (fun f => f)
                          have m0 := blk_cell bN 0
                          have m1 := blk_cell bN 1
                          have y0 := blk_frozen bN 0
                          have y1 := blk_frozen bN 1
                          simp at m0 m1)
                       | skip
                     have H6 := Lib.hid (And.intro hf6 (And.intro hc6 hr6))
                     clear hf6 hc6 hr6 hg6))
              all_goals go_wp2_with fail
              all_goals go_meet
              all_goals first
                | exact ⟨_, rfl, rchn_behind (by repeat (first | exact Fr.refl _ _ | apply Fr.alloc | apply Fr.drew | apply Fr.drewN)) H6.out.1 H6.out.2.1 H6.out.2.2⟩
                | (refine ⟨_, rfl, rchn_before (w0 := wo.drew.alloc (.cells #[.slice none 0 0, .int .i64 0] 119)) ?_ ?_ ?_ H6.out.1 H6.out.2.1 H6.out.2.2⟩
                   · exact Nat.le_trans (Nat.le_add_right _ 3) HBx.out.size
                   · repeat (first | exact Fr.refl _ _ | apply Fr.alloc | apply Fr.drew | apply Fr.drewN)
                   · exact heap_alloc_new wo _)
            case rest =>
              obtain ⟨b, rfl, HC⟩ := hcut
              go_wp2_with fail
              go_loopw [11] (fun i wi => ∃ (p : Nat), p ≤ ws.length ∧ i = .int .i64 p ∧ Hid (RChn w wo wi F (upd (s.now + 1) (ws.take p) key (s.of key)) b)) (fun i _ => ws.length - (intOf i).toNat)
              case atStart => exact ⟨0, Nat.zero_le _, rfl, HC.out⟩
              case round =>
                obtain ⟨wi, hwi⟩ : ∃ wi, wi = wr := ⟨_, rfl⟩
                subst hwi
                obtain ⟨p, hp, rfl, HI⟩ := hrel
                obtain ⟨hlb2, hfi, A7, c7, hb7, hc7, hr7⟩ := HI.out
                have hBi := HBx.out.fr0 hfi
                have a3 := blk_cell hBi.b1 0
                have a4 := blk_cell hBi.b1 1
                have hbi := hfi.blk I.out.blk (fun f => f)
                have n0 := blk_cell hbi 0
                have n1 := blk_cell hbi 1
                have zn := blk_frozen hbi 1
                have x0 := hfi.cell x0 (fun f => f)
                have g0 := blk_cell hb7 0
                have g1 := blk_cell hb7 1
                simp at a3 a4 n0 n1 g0 g1
                have hp0 : (0 : Int) ≤ (p : Int) := Int.natCast_nonneg _
                have hl64 : (ws.length : Int) ≤ 64 := by have := H.out.2.2.2.2.2.2.2; omega
                by_cases hlt2 : p < ws.length
                · have hp1 : (p : Int) < (ws.length : Int) := by omega
                  obtain ⟨ad, A', c', rfl, y0, y1, y2, hcw, hrw⟩ := wr_at (H.out.2.2.2.2.2.1.fr0 hBi.fr) hlt2
                  have hnd := (allFit_rising H.out.2.2.2.2.2.2.1).1.nodup
                  have hmem := allFit_mem H.out.2.2.2.2.2.2.1 ws[p] (List.getElem_mem hlt2)
                  have hne : ws[p].key ≠ key → upd (s.now + 1) (ws.take (p + 1)) key (s.of key) = upd (s.now + 1) (ws.take p) key (s.of key) := fun hne => by
                    rw [List.take_succ_eq_append_getElem hlt2, upd_snoc_ne hne]
                  have hnot : ws[p].key ∉ (ws.take p).map Wr.key := by
                    have := nodup_not_take hnd (i := p) (by simpa using hlt2)
                    rwa [List.getElem_map, ← List.map_take] at this
                  have heq : ws[p].key = key → upd (s.now + 1) (ws.take p) key (s.of key) = s.of key ∧ upd (s.now + 1) (ws.take (p + 1)) key (s.of key) = (s.of key).put (s.now + 1) ws[p].row ws[p].gone := fun he => by
                    subst he
                    exact ⟨upd_none hnot, by rw [List.take_succ_eq_append_getElem hlt2, upd_snoc_eq hnot]⟩
                  obtain ⟨ch, hch⟩ : ∃ ch, upd (s.now + 1) (ws.take p) key (s.of key) = ch := ⟨_, rfl⟩
                  obtain ⟨ch2, hch2⟩ : ∃ ch2, upd (s.now + 1) (ws.take (p + 1)) key (s.of key) = ch2 := ⟨_, rfl⟩
                  rw [hch] at HI hb7 hc7 hr7 g0 g1 hne heq
                  rw [hch2] at hne heq
                  have HY := Lib.hid (And.intro hne (And.intro heq (And.intro hcw (And.intro hrw (And.intro hmem.2.2.1 hch2)))))
                  clear hne heq hcw hrw hmem hch hch2 hnot hnd hbi
                  obtain ⟨ky, row, gone, hxe⟩ : ∃ ky row gone, ws[p] = ⟨ky, row, gone⟩ := ⟨_, _, _, rfl⟩
                  rw [hxe] at HY
                  simp only [hxe] at y0 y1 y2
                  clear hxe
                  obtain ⟨W, hW⟩ : ∃ W, W = wi.alloc (.cells #[.string ky, .slice A' row.length c', .bool gone] 43) := ⟨_, rfl⟩
                  have hfW : Fr No wi W := by rw [hW]; exact (Fr.refl No wi).alloc _
                  have hbW : W.heap[wi.heap.size]? = some (.cells #[.string ky, .slice A' row.length c', .bool gone] 43 (0, 0)) := by rw [hW]; exact heap_alloc_new wi _
                  have t0 := blk_cell hbW 0
                  have t1 := blk_cell hbW 1
                  have t2 := blk_cell hbW 2
                  simp at t0 t1 t2
                  have n0W := hfW.cell n0 (fun f => f)
                  have x0W := hfW.cell x0 (fun f => f)
                  have a3W := hfW.cell a3 (fun f => f)
                  have g0W := hfW.cell g0 (fun f => f)
                  have g1W := hfW.cell g1 (fun f => f)
                  have HW := Lib.hid (And.intro hfW (And.intro hb7 (And.intro hc7 (And.intro hr7 (And.intro hlb2 (And.intro hfi hBi))))))
                  clear hfW hbW hb7 hc7 hr7 hfi hBi
                  cases hb : (ky.toList == key.toList)
                  · go_wp2_with fail
                    rw [← hW]
                    clear hW
                    go_quiet (fail)
                    go_wp2
                    go_roundw
                    case rel =>
                      refine ⟨p + 1, by omega, by go_num, ?_⟩
                      show RChn w wo _ F (upd (s.now + 1) (ws.take (p + 1)) key (s.of key)) b
                      rw [HY.out.2.2.2.2.2, HY.out.1 (by rw [beq_toList] at hb; simpa using hb)]
                      exact HI.out.fr0 (HW.out.1.drewN _)
                    case measure => simp [intOf]; omega
                  · have hk : ky = key := by rw [beq_toList] at hb; simpa using hb
                    have he := HY.out.2.1 hk
                    have hput := fun w' (f : Fr No W w') => ref_cput (w := w') (c := ch) (cp := c7) (cr := c') (s.now + 1) gone ((HW.out.2.2.2.1.fr0 HW.out.1).fr0 f) (by rw [he.1]; have := HX.out.2.2.1.2.1; omega) ((HY.out.2.2.2.1.fr0 HW.out.1).fr0 f) (by have h4 : row.length ≤ 4000 := HY.out.2.2.2.2.1; show row.length ≤ 1000000000; omega) (by rw [he.1]; have := HX.out.2.2.2; omega)
                    rw [show ch.put (s.now + 1) row gone = ch2 by rw [he.2, he.1]] at hput
                    have HP := Lib.hid (And.intro hput hk)
                    clear hput he hk
                    go_wp2_with fail
                    rw [← hW]
                    clear hW
                    go_quiet (fail)
                    go_wp2_with (go_at_call 62; refine (HP.out.1 _ (by repeat (first | exact Fr.refl _ _ | apply Fr.alloc | apply Fr.drew | apply Fr.drewN))).mono ?_; rintro e8 w8 ⟨u8, rfl, ⟨A8, c8, rfl, hc8, hr8⟩, hf8⟩
                                 have hb8 := hf8.blk (HW.out.1.blk HW.out.2.1 (fun f => f)) (fun f => f)
                                 have k0 := blk_cell hb8 0
                                 have k1 := blk_cell hb8 1
                                 have z0 := blk_frozen hb8 0
                                 have z1 := blk_frozen hb8 1
                                 simp at k0 k1
                                 have H8 := Lib.hid (And.intro hc8 (And.intro hr8 hf8))
                                 clear hc8 hr8 hf8 hb8)
                    go_roundw
                    case rel =>
                      refine ⟨p + 1, by omega, by go_num, ?_⟩
                      show RChn w wo _ F (upd (s.now + 1) (ws.take (p + 1)) key (s.of key)) b
                      rw [HY.out.2.2.2.2.2]
                      have hbl : b < W.heap.size := blk_lt (HW.out.1.blk HW.out.2.1 (fun f => f))
                      have hwi : wo.heap.size ≤ W.heap.size := Nat.le_trans HW.out.2.2.2.2.2.1.size HW.out.1.size
                      exact HI.out.put ((HW.out.1.drewN _).trans (H8.out.2.2.mono fun _ _ f => f.elim)) H8.out.1 H8.out.2.1 (fun i hi => by
                        rcases hi with hi | hi
                        · exact hi
                        · have hi' : W.heap.size ≤ i := hi
                          exact .inr ⟨by omega, by omega⟩) (Nat.le_trans (Nat.le_add_right _ 3) HBx.out.size)
                    case measure => simp [intOf]; omega
                · obtain rfl : p = ws.length := by omega
                  rw [List.take_length] at HI hb7 hc7 hr7 g0 g1
                  obtain ⟨x, hx⟩ : ∃ x, upd (s.now + 1) ws key (s.of key) = x := ⟨_, rfl⟩
                  rw [hx] at HI hb7 hc7 hr7 g0 g1
                  have htk := HX.out.1
                  rw [hx] at htk
                  have HT := Lib.hid (And.intro htk (And.intro hc7 (And.intro hr7 (And.intro hfi hlb2))))
                  have hqi : ((q : Int) + 1) * 32 ≤ 140737488355328 := by omega
                  clear htk hx hc7 hr7 hfi hBi hb7 hbi
                  go_wp2_with (at_builtin; refine ow_append tChn (ys := [x]) ((I.out.own.fr0 HT.out.2.2.2.1).fr0 ((Fr.refl No _).alloc _)) _ _ (.agg #[.slice none 0 0, .int .i64 0]) 32 rfl rfl Try.underlying53 info_rchn rfl (by decide) (by decide) rfl rfl rfl (Row.single (tChn_mk (l := x.l) (n := x.last) (A := A7) (c := c7) HT.out.2.1 ((HT.out.2.2.1.fr0 ((Fr.refl No _).alloc _)).mono fun i hi hl => ?qf))) (At.block (heap_alloc_new _ _)) ?ql ?_
                               case qf =>
                                 have h1 := HK.out.2.1.size
                                 have h2 := I.out.fr.size
                                 refine ⟨?_, fun he => ?_⟩
                                 · rcases hi with hi | hi
                                   · exact .inl hi
                                   · exact .inr (by omega)
                                 · have h3 := I.out.box i he
                                   have h4 := (I.out.own.own he).2
                                   rcases hi with hi | hi
                                   · have := hi.2; omega
                                   · have := hi.1; omega
                               case ql => rw [HLk.out]; simp; omega
                               intro A3n c3n w3 hown3 hg3 hat3
                               have hlen3 : ((K.take q).map fun k => upd (s.now + 1) ws k (s.of k)).length + [x].length = q + 1 := by rw [HLk.out]; rfl
                               rw [hlen3] at hown3 hat3 ⊢
                               have hnx := rapp_next hbc hbw I.out HI.out hown3 hg3 hat3
                               have k3 := blk_cell hnx.1 1
                               have z3 := blk_frozen hnx.1 1
                               simp at k3
                               have H3 := Lib.hid hnx
                               clear hnx hown3 hg3 hat3 hlen3)
                  go_roundw
                  case rel => exact ⟨q + 1, .slice A3n (q + 1) c3n, by go_num, ⟨by omega, H3.out.2.1, by rw [HT.out.1]; exact H3.out.2.2.1, H3.out.2.2.2.1, H3.out.2.2.2.2⟩⟩
                  case measure => simp [intOf]; omega
          · obtain rfl : q = K.length := by have := I.out.le; omega
            have b2 := blk_cell HBx.out.b2 0
            have b21 := blk_cell HBx.out.b2 1
            have b22 := blk_cell HBx.out.b2 2
            have z0 := blk_frozen HBx.out.b2 0
            have z1 := blk_frozen HBx.out.b2 1
            have z2 := blk_frozen HBx.out.b2 2
            simp at b2 b21 b22
            have c0 := n0
            have hI := I.out.own.rd
            have hb4 := blk_set (blk_set (blk_set HBx.out.b2 0 (.slice A5 K.length c5)) 1 (.slice A2 K.length cv)) 2 (.int .i64 (s.now + 1))
            have d0 := blk_cell hb4 0
            have d1 := blk_cell hb4 1
            have d2 := blk_cell hb4 2
            simp at d0 d1 d2
            have hnF : ∀ i, (F i ∧ i < w.heap.size) ∨ wc.heap.size ≤ i → i ≠ w.heap.size + 2 := fun i hi => by rcases hi with hi | hi; have := hi.2; omega; omega
            have hwr : w.heap.size + 2 < wr.heap.size := by have := hB.out.size; omega
            have hkeys := (((HK.out.2.2.2.2.fr I.out.fr fun i hi e => hi.1.2 e).set2 ⟨w.heap.size + 2, 0, none⟩ (fun hi => by have := hi.1.1; simp at this; omega) (.slice A5 K.length c5)).set2 ⟨w.heap.size + 2, 1, none⟩ (fun hi => by have := hi.1.1; simp at this; omega) (.slice A2 K.length cv)).set2 ⟨w.heap.size + 2, 2, none⟩ (fun hi => by have := hi.1.1; simp at this; omega) (.int .i64 (s.now + 1))
            have hchs := ((hI.2.2.set2 ⟨w.heap.size + 2, 0, none⟩ (fun hi => hnF _ hi rfl) (.slice A5 K.length c5)).set2 ⟨w.heap.size + 2, 1, none⟩ (fun hi => hnF _ hi rfl) (.slice A2 K.length cv)).set2 ⟨w.heap.size + 2, 2, none⟩ (fun hi => hnF _ hi rfl) (.int .i64 (s.now + 1))
            have hfr : Fr No w (((wo.setCell ⟨w.heap.size + 2, 0, none⟩ (.slice A5 K.length c5)).setCell ⟨w.heap.size + 2, 1, none⟩ (.slice A2 K.length cv)).setCell ⟨w.heap.size + 2, 2, none⟩ (.int .i64 (s.now + 1))) :=
              ((HBx.out.fr.set _ (.inr (by simp)) _).set _ (.inr (by simp)) _).set _ (.inr (by simp)) _
            have HE := Lib.hid (And.intro hkeys (And.intro hchs (And.intro hfr (And.intro hI.2.1 (And.intro d0 (And.intro d1 d2))))))
            clear hkeys hchs hfr hI d0 d1 d2 hb4 hnF
            go_wp2
            obtain ⟨hkeys, hchs, hfr, hc2, d0, d1, d2⟩ := HE.out
            have hkc := apply_keys (n := s.now + 1) H.out.2.2.2.2.1.rising (allFit_rising H.out.2.2.2.2.2.2.1).1.nodup
            rw [HK.out.1] at hkc
            have hf1 : (K.map fun k => (k, upd (s.now + 1) ws k (s.of k))).map Prod.fst = K := by rw [List.map_map]; exact List.map_id K
            have hf2 : (K.map fun k => (k, upd (s.now + 1) ws k (s.of k))).map Prod.snd = K.map fun k => upd (s.now + 1) ws k (s.of k) := by rw [List.map_map]; rfl
            refine bodyPost_ret (v := .tuple #[.agg #[.slice A5 K.length c5, .slice A2 K.length cv, .int .i64 (s.now + 1)], .int .i64 0]) (by simp [results, Try.results39, go_sem, d0, d1, d2]) rfl ⟨_, rfl, ⟨A5, c5, A2, cv, ?_, ?_, ?_, ?_, ?_⟩, hfr⟩
            · rw [hkc, List.length_map]
            · rw [hkc, List.length_map]; exact HK.out.2.2.2.1
            · rw [hkc, List.length_map]; exact hc2
            · rw [hkc, hf1]
              exact hkeys.mono fun i hi _ => .inr (by have := hi.1.1; omega)
            · rw [hkc, hf2]
              rw [List.take_length] at hchs
              exact hchs.mono fun i hi _ => by rcases hi with hi | hi; exact .inl hi.1; exact .inr (by omega)
end Go.Proofs.Ytkcppngopdiljaa
