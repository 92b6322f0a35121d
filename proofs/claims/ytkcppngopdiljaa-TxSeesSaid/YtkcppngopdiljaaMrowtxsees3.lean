/- Texts of this claim, one behind the other: Law23, Ref13c, Law2, Ref13e, Ref13f, Law3, Law4, Ref14b, Spec14b, Ref14c, Tx7, Tx8, Tx9, Range, Tx10. -/
import Derived.Test.YtkcppngopdiljaaMrowtxsees2
import Derived.Test.YtkcppngopdiljaaMrowtxsees1
import Derived.Deep.RegionLaw
import Derived.Deep.DeepCutAuto
import Derived.Deep.RegionHeld3
import Derived.BigQuiet
import Derived.BigRegion
import Derived.Test.YtkcppngopdiljaaShelf2
import Derived.Shelf.SlSortCmp.NoneTotal
import Derived.Maps.RangeWalk
import Derived.StillTailTactics
import Derived.IntWalk
/- Laws of layer 14 (tx): written, the walk. -/
set_option linter.unusedVariables false
set_option linter.unusedSimpArgs false
namespace Go.Proofs.Ytkcppngopdiljaa
open Go.RowKit

/-- Behind the program's write: the document's, and its laying into the box. -/
theorem written_main {w0 w4 : World} {FX FM RW : Nat → Prop} {xb bx : Nat} {base : Int} {ws : List Wr} {x : Wr} {A' : Option Addr} {c' : Nat} (hT : TxAt w4 FX xb base (wwrite ws x).1) (hB : TxBox w4 FM bx base ws) (hX : ∀ i, FX i → w0.heap.size ≤ i ∧ ¬ FM i ∧ i ≠ bx ∧ ¬ RW i ∧ i < w4.heap.size) (hM : ∀ i, FM i → w0.heap.size ≤ i ∧ i ≠ bx ∧ i < w4.heap.size)
    (hr : Rd Ty.u8 w4 RW A' x.row) (hc : x.row.length ≤ c') (hRW : ∀ i, RW i → w0.heap.size ≤ i ∧ i ≠ bx ∧ i < w4.heap.size) (hf : Fr No w0 w4) (hl : w0.heap.size ≤ bx) (hn : ws.length ≤ 20) (hri : Rising (ws.map Wr.key)) :
    ∃ A c, w4.heap[bx]? = some (.cells #[.int .i64 base, .slice A ws.length c] 34 (0, 0)) ∧
      Calls Try.prog 34 #[.agg #[.int .i64 base, .slice A ws.length c], .agg #[.string x.key, .slice A' x.row.length c', .bool x.gone]] w4 fun e w6 => ∃ A1 c1, e = .returned (.tuple #[.agg #[.int .i64 base, .slice A1 (wwrite ws x).1.length c1], .int .i64 (wwrite ws x).2]) ∧ Fr No w4 w6 ∧
        ∀ o, Both w0 (((w6.setCell ⟨bx, 0, none⟩ (.int .i64 base)).setCell ⟨bx, 1, none⟩ (.slice A1 (wwrite ws x).1.length c1)).alloc o) xb bx base (wwrite ws x).1 := by
  obtain ⟨A, c, h1, h2, h3⟩ := hB.box
  refine ⟨A, c, h1, (ref_write (x := x) ⟨A, c, rfl, h2, h3⟩ hn hri hr hc).mono ?_⟩
  rintro e w6 ⟨u, rfl, ⟨A1, c1, rfl, h5, h6⟩, hf6⟩
  refine ⟨A1, c1, rfl, hf6, fun o => ?_⟩
  have hz := hf6.size
  have hbx : bx < w4.heap.size := blk_lt h1
  have hw := hf.size
  have hset : Fr (fun i => i = bx) w6 (((w6.setCell ⟨bx, 0, none⟩ (.int .i64 base)).setCell ⟨bx, 1, none⟩ (.slice A1 (wwrite ws x).1.length c1)).alloc o) :=
    (((Fr.refl (fun i => i = bx) w6).set ⟨bx, 0, none⟩ (.inl rfl) _).set ⟨bx, 1, none⟩ (.inl rfl) _).alloc o
  have hsz := hset.size
  have hb6 := blk_set (blk_set (hf6.blk h1 (fun f => f)) 0 (.int .i64 base)) 1 (.slice A1 (wwrite ws x).1.length c1)
  have hG : ∀ i, ((FM i ∨ RW i ∨ w4.heap.size ≤ i) ∧ i < w6.heap.size) → w0.heap.size ≤ i ∧ i ≠ bx ∧ i < w6.heap.size := fun i hi => by
    rcases hi.1 with h | h | h
    · have := hM i h; exact ⟨this.1, this.2.1, hi.2⟩
    · have := hRW i h; exact ⟨this.1, this.2.1, hi.2⟩
    · exact ⟨by omega, by omega, hi.2⟩
  refine ⟨⟨FX, fun i => (FM i ∨ RW i ∨ w4.heap.size ≤ i) ∧ i < w6.heap.size, (hT.fr0 hf6).fr hset (fun i hi e => (hX i hi).2.2.1 e), ⟨A1, c1, ?_, h5, (h6.mono fun i hi hl => ⟨hi, hl⟩).fr hset fun i hi e => (hG i hi).2.1 e⟩, fun i hi => ?_, fun i hi => ?_⟩, (hf.trans (hf6.mono fun _ _ f => f.elim)).trans (hset.mono fun i _ e => .inr (by omega)), hl⟩
  · exact (Below.heap_alloc _ _ _ (blk_lt hb6)).trans (by simpa using hb6)
  · have h8 := hX i hi
    exact ⟨h8.1, fun h => by
      rcases h.1 with h | h | h
      · exact h8.2.1 h
      · exact h8.2.2.2.1 h
      · omega, h8.2.2.1, by omega⟩
  · have h8 := hG i hi
    exact ⟨h8.1, h8.2.1, by omega⟩

/-- The program's write, the document's behind it, and its laying into the box. -/
theorem written_step {w0 wr X : World} {xb bx b : Nat} {base : Int} {ws : List Wr} {x : Wr} {A' : Option Addr} {c' : Nat} {fn : FuncId} {args : Array Value} (I : Both w0 wr xb bx base ws) (hfX : Fr No wr X) (hn : ws.length ≤ 20) (hri : Rising (ws.map Wr.key)) (hr : Rd Ty.u8 X (fun i => wr.heap.size ≤ i ∧ i < X.heap.size) A' x.row) (hc : x.row.length ≤ c')
    (hb : X.heap[b]? = some (.cells #[.string x.key, .slice A' x.row.length c', .bool x.gone] 43 (0, 0))) (hlb : wr.heap.size ≤ b)
    (hcall : ∀ FX, TxAt X FX xb base ws → Calls Try.prog fn args X fun e w4 => e = .returned (.int .i64 (wwrite ws x).2) ∧ TxAt w4 (fun i => FX i ∨ X.heap.size ≤ i) xb base (wwrite ws x).1 ∧ Fr FX X w4) :
    Calls Try.prog fn args X fun e w4 => e = .returned (.int .i64 (wwrite ws x).2) ∧ w4.heap[b]? = some (.cells #[.string x.key, .slice A' x.row.length c', .bool x.gone] 43 (0, 0)) ∧
      ∃ A c, w4.heap[bx]? = some (.cells #[.int .i64 base, .slice A ws.length c] 34 (0, 0)) ∧
      Calls Try.prog 34 #[.agg #[.int .i64 base, .slice A ws.length c], .agg #[.string x.key, .slice A' x.row.length c', .bool x.gone]] w4 fun e w6 => ∃ A1 c1, e = .returned (.tuple #[.agg #[.int .i64 base, .slice A1 (wwrite ws x).1.length c1], .int .i64 (wwrite ws x).2]) ∧ Fr No w4 w6 ∧
        ∀ o, Both w0 (((w6.setCell ⟨bx, 0, none⟩ (.int .i64 base)).setCell ⟨bx, 1, none⟩ (.slice A1 (wwrite ws x).1.length c1)).alloc o) xb bx base (wwrite ws x).1 := by
  obtain ⟨⟨FX, FM, hT, hB, hX, hM⟩, hfr, hlow⟩ := I
  refine (hcall FX (hT.fr0 hfX)).mono ?_
  rintro e w4 ⟨rfl, hT4, hf4⟩
  have hz := hfX.size
  have hz4 := hf4.size
  have hw := hfr.size
  have hbx : bx < wr.heap.size := by obtain ⟨_, _, h1, _⟩ := hB.box; exact blk_lt h1
  refine ⟨rfl, hf4.blk hb (fun h => by have := (hX b h).2.2.2; omega), ?_⟩
  refine written_main (FX := fun i => (FX i ∨ X.heap.size ≤ i) ∧ i < w4.heap.size) (FM := FM) (RW := fun i => wr.heap.size ≤ i ∧ i < X.heap.size) (hT4.mono fun i hi hl => ⟨hi, hl⟩) ((hB.fr0 hfX).fr hf4 (fun h => (hX _ h).2.2.1 rfl) (fun k hk h => (hX k h).2.1 hk)) (fun i hi => ?_) (fun i hi => ?_) (hr.fr hf4 fun i hi h => by have := (hX i h).2.2.2; have := hi.1; omega) hc (fun i hi => ⟨by have := hi.1; omega, by have := hi.1; omega, by have := hi.2; omega⟩) ((hfr.trans (hfX.mono fun _ _ f => f.elim)).trans (hf4.mono fun i _ h => .inr (hX i h).1)) hlow hn hri
  · obtain ⟨hi | hi, hl⟩ := hi
    · have h8 := hX i hi
      exact ⟨h8.1, h8.2.1, h8.2.2.1, fun h => by have := h.1; omega, hl⟩
    · exact ⟨by omega, fun h => by have := (hM i h).2.2; omega, by omega, fun h => by have := h.2; omega, hl⟩
  · have h8 := hM i hi
    exact ⟨h8.1, h8.2.1, by omega⟩

/-- A write that has just been made, in a box. -/
structure WBox (wr wx : World) (b : Nat) (key : ByteArray) (g : Bool) : Prop where
  lt : wr.heap.size ≤ b
  fr : Fr No wr wx
  box : wx.heap[b]? = some (.cells #[.string key, .slice none 0 0, .bool g] 43 (0, 0))

set_option maxHeartbeats 4000000 in
set_option maxRecDepth 100000 in
theorem law_written {w : World} {G : Nat → Prop} {E : Option Addr} {e1 : Nat} {l : List Actn} (base : Int) (h : Rd tAct w G E l) (hl : l.length ≤ 1000) :
    Calls Try.prog 15 #[.int .i64 base, .slice E l.length e1] w fun e w' => ∃ xb A c, e = .returned (.tuple #[.pointer (some ⟨xb, 0, none⟩), .agg #[.int .i64 base, .slice A (wrAll [] l).length c], .bool true]) ∧ (wrAll [] l).length ≤ c ∧
      (∃ FX FM : Nat → Prop, TxAt w' FX xb base (wrAll [] l) ∧ Rd tWr w' FM A (wrAll [] l) ∧ (∀ i, FX i → w.heap.size ≤ i ∧ ¬ FM i ∧ i < w'.heap.size)) ∧ Fr No w w' := by
  have hlI : (l.length : Int) ≤ 1000 := by omega
  obtain ⟨w0, hw0⟩ : ∃ w0, w0 = w.alloc (.cells #[.int .i64 0, .slice none 0 0] 34) := ⟨_, rfl⟩
  have hf0 : Fr No w w0 := by rw [hw0]; exact (Fr.refl No w).alloc _
  have hsz0 : w0.heap.size = w.heap.size + 1 := by rw [hw0]; simp
  have hb0 : w0.heap[w.heap.size]? = some (.cells #[.int .i64 0, .slice none 0 0] 34 (0, 0)) := by rw [hw0]; exact heap_alloc_new w _
  have H := Lib.hid (And.intro (h.mono fun i hi hl => (⟨hi, hl⟩ : G i ∧ i < w.heap.size)) (And.intro hf0 (And.intro hsz0 hb0)))
  clear h hf0 hsz0 hb0
  go_enter Try.func15, Try.ntmps15
  go_wp2_with fail
  rw [← hw0]
  clear hw0
  refine (tx_new base w0).mono ?_
  rintro e1 w1 ⟨xb, rfl, ht1, hf1⟩
  obtain ⟨W, hW⟩ : ∃ W, W = w1.alloc (.cells #[.int .i64 base, .slice none 0 0] 34) := ⟨_, rfl⟩
  have hfW : Fr No w1 W := by rw [hW]; exact (Fr.refl No w1).alloc _
  have hbW : W.heap[w1.heap.size]? = some (.cells #[.int .i64 base, .slice none 0 0] 34 (0, 0)) := by rw [hW]; exact heap_alloc_new w1 _
  have hsW : W.heap.size = w1.heap.size + 1 := by rw [hW]; simp
  have hBo : Both w0 W xb w1.heap.size base [] := ⟨⟨fun i => w0.heap.size ≤ i ∧ i < w1.heap.size, fun _ => False, (ht1.mono fun i hi hl => ⟨hi, hl⟩).fr0 hfW, ⟨none, 0, hbW, Nat.le_refl _, Rd.nil⟩, fun i hi => ⟨hi.1, fun f => f, by have := hi.2; omega, by have := hi.2; omega⟩, fun i f => f.elim⟩, hf1.trans (hfW.mono fun _ _ f => f.elim), hf1.size⟩
  have HB := Lib.hid hBo
  clear ht1 hf1 hfW hbW hsW hBo
  go_wp2_with fail
  rw [← hW]
  clear hW
  go_loopw [9, 10] (fun o i wr => ∃ k : Nat, k ≤ l.length ∧ i = .int .i64 k ∧ o = .bool true ∧ Hid (Both w0 wr xb w1.heap.size base (wrAll [] (l.take k)))) (fun _ i _ => l.length - (intOf i).toNat)
  case atStart => exact ⟨0, Nat.zero_le _, rfl, rfl, HB.out⟩
  case round =>
    obtain ⟨k, hk, rfl, rfl, I⟩ := hrel
    have hq0 : (0 : Int) ≤ (k : Int) := Int.natCast_nonneg _
    have hwr : Fr No w wr := H.out.2.1.trans (I.out.fr.mono fun _ _ f => f.elim)
    by_cases hlt : k < l.length
    · have hq1 : (k : Int) < (l.length : Int) := by omega
      obtain ⟨ad, rfl, x0, x1, x2⟩ := act_at (H.out.1.fr0 hwr) hlt
      have hstep : wrAll [] (l.take (k + 1)) = (wwrite (wrAll [] (l.take k)) (actW l[k])).1 := by rw [List.take_succ_eq_append_getElem hlt, wrAll_snoc]
      have hok := wrAll_ok nil_ok (l.take k)
      obtain ⟨ws, hws⟩ : ∃ ws, wrAll [] (l.take k) = ws := ⟨_, rfl⟩
      obtain ⟨a, ha⟩ : ∃ a, l[k] = a := ⟨_, rfl⟩
      rw [hws] at hstep hok I
      rw [ha] at hstep x0 x1 x2
      obtain ⟨q, r, g⟩ := a
      simp only at x0 x1 x2
      have HS := Lib.hid (And.intro hstep (And.intro hok hwr))
      clear hstep hok hwr hws ha
      have hmod : (q.toNat : Int) % 30 = ((q % 30).toNat : Int) := by rw [UInt8.toNat_mod]; rfl
      have kg : ∀ (w' : World) (b : Nat), w'.heap[b]? = some (.cells #[.int .u8 107, .int .u8 ((q.toNat : Int) % 30)] 5 (0, 0)) → (convert 27 9 (.slice (some ⟨b, 0, none⟩) 2 2)).run Try.prog w' = .ok (.string (kq (q % 30))) w' := fun w' b hb => by
        rw [hmod] at hb
        exact run_kq_at w' b (q % 30) hb
      have kc1 : ∀ w0 : World, (convert 27 9 (.slice (some ⟨w0.heap.size, 0, none⟩) 2 2)).run Try.prog (w0.alloc (.cells #[.int .u8 107, .int .u8 ((q.toNat : Int) % 30)] 5)).drew = .ok (.string (kq (q % 30))) (w0.alloc (.cells #[.int .u8 107, .int .u8 ((q.toNat : Int) % 30)] 5)).drew := fun w0 => kg _ _ (heap_alloc_new w0 _)
      have kc2 : ∀ (w0 : World) (o : Obj), (convert 27 9 (.slice (some ⟨w0.heap.size, 0, none⟩) 2 2)).run Try.prog ((w0.alloc (.cells #[.int .u8 107, .int .u8 ((q.toNat : Int) % 30)] 5)).alloc o).drew = .ok (.string (kq (q % 30))) ((w0.alloc (.cells #[.int .u8 107, .int .u8 ((q.toNat : Int) % 30)] 5)).alloc o).drew := fun w0 o => kg _ _ (blk_two1 w0 _ _)
      have kc3 : ∀ (w0 : World) (o : Obj), (convert 27 9 (.slice (some ⟨w0.heap.size + 1, 0, none⟩) 2 2)).run Try.prog ((w0.alloc o).alloc (.cells #[.int .u8 107, .int .u8 ((q.toNat : Int) % 30)] 5)).drew = .ok (.string (kq (q % 30))) ((w0.alloc o).alloc (.cells #[.int .u8 107, .int .u8 ((q.toNat : Int) % 30)] 5)).drew := fun w0 o => kg _ _ (blk_two2 w0 _ _)
      have kgt : ∀ (w' : World) (b : Nat), w'.heap[b]? = some (.cells #[.int .u8 107, .int .u8 ((q.toNat : Int).tmod 30)] 5 (0, 0)) → (convert 27 9 (.slice (some ⟨b, 0, none⟩) 2 2)).run Try.prog w' = .ok (.string (kq (q % 30))) w' := fun w' b hb => by
        rw [Int.tmod_eq_emod_of_nonneg (Int.natCast_nonneg _), hmod] at hb
        exact run_kq_at w' b (q % 30) hb
      have kt1 : ∀ w0 : World, (convert 27 9 (.slice (some ⟨w0.heap.size, 0, none⟩) 2 2)).run Try.prog (w0.alloc (.cells #[.int .u8 107, .int .u8 ((q.toNat : Int).tmod 30)] 5)).drew = .ok (.string (kq (q % 30))) (w0.alloc (.cells #[.int .u8 107, .int .u8 ((q.toNat : Int).tmod 30)] 5)).drew := fun w0 => kgt _ _ (heap_alloc_new w0 _)
      have kt2 : ∀ (w0 : World) (o : Obj), (convert 27 9 (.slice (some ⟨w0.heap.size, 0, none⟩) 2 2)).run Try.prog ((w0.alloc (.cells #[.int .u8 107, .int .u8 ((q.toNat : Int).tmod 30)] 5)).alloc o).drew = .ok (.string (kq (q % 30))) ((w0.alloc (.cells #[.int .u8 107, .int .u8 ((q.toNat : Int).tmod 30)] 5)).alloc o).drew := fun w0 o => kgt _ _ (blk_two1 w0 _ _)
      have kt3 : ∀ (w0 : World) (o : Obj), (convert 27 9 (.slice (some ⟨w0.heap.size + 1, 0, none⟩) 2 2)).run Try.prog ((w0.alloc o).alloc (.cells #[.int .u8 107, .int .u8 ((q.toNat : Int).tmod 30)] 5)).drew = .ok (.string (kq (q % 30))) ((w0.alloc o).alloc (.cells #[.int .u8 107, .int .u8 ((q.toNat : Int).tmod 30)] 5)).drew := fun w0 o => kgt _ _ (blk_two2 w0 _ _)
      clear kgt
      have x0a := fun o => cell_alloc x0 o
      have x2a := fun o => cell_alloc x2 o
      have x0b := fun o o' => cell_alloc (cell_alloc x0 o) o'
      have x2b := fun o o' => cell_alloc (cell_alloc x2 o) o'
      have hx0 : (0 : Int) ≤ (q.toNat : Int) := Int.natCast_nonneg _
      have hx1 : (q.toNat : Int) < 256 := by have := q.toNat_lt; omega
      have HKG := Lib.hid kg
      clear kg
      go_wp2_with fail
      go_cut [11] (fun s11 wx => ∃ b : Nat, s11 = .pointer (some ⟨b, 0, none⟩) ∧ Hid (WBox wr wx b (kq (q % 30)) g))
      case first =>
        go_region
        all_goals go_wp2_with fail
        all_goals go_meet
        all_goals refine ⟨_, rfl, ⟨by first | exact Nat.le_refl _ | exact Nat.le_add_right _ _ | simp, by repeat (first | exact Fr.refl _ _ | apply Fr.alloc | apply Fr.drew | apply Fr.drewN), ?_⟩⟩
        all_goals first
          | exact blk_two2 wr _ _
          | exact blk_two1 wr _ _
      case rest =>
        obtain ⟨b, rfl, HW⟩ := hcut
        clear kc1 kc2 kc3 kt1 kt2 kt3 x0a x0b x2a x2b x0 x2
        have x1 := HW.out.fr.cell x1 (fun f => f)
        have c0 := blk_cell HW.out.box 0
        have c1 := blk_cell HW.out.box 1
        have c2 := blk_cell HW.out.box 2
        have z1 := blk_frozen HW.out.box 1
        simp at c0 c1 c2
        have hbl : b < wc.heap.size := blk_lt HW.out.box
        cases g with
        | false =>
          obtain ⟨X, hX⟩ : ∃ X, X = (wc.setCell ⟨b, 1, none⟩ (.slice (some ⟨wc.heap.size, 0, none⟩) 1 1)).alloc (.cells #[.int .u8 (r.toNat : Int)] 5) := ⟨_, rfl⟩
          have hfX : Fr No wr X := by rw [hX]; exact (HW.out.fr.set ⟨b, 1, none⟩ (.inr HW.out.lt) _).alloc _
          have hnw := heap_alloc_new (wc.setCell ⟨b, 1, none⟩ (.slice (some ⟨wc.heap.size, 0, none⟩) 1 1)) (.cells #[.int .u8 (r.toNat : Int)] 5)
          rw [show (wc.setCell ⟨b, 1, none⟩ (.slice (some ⟨wc.heap.size, 0, none⟩) 1 1)).heap.size = wc.heap.size by simp [World.setCell], ← hX] at hnw
          have hbX : X.heap[b]? = some (.cells #[.string (kq (q % 30)), .slice (some ⟨wc.heap.size, 0, none⟩) 1 1, .bool false] 43 (0, 0)) := by
            have hb6 := blk_set HW.out.box 1 (.slice (some ⟨wc.heap.size, 0, none⟩) 1 1)
            rw [hX]
            exact (Below.heap_alloc _ _ _ (blk_lt hb6)).trans (by simpa using hb6)
          have hwz := HW.out.fr.size
          have hrX : Rd Ty.u8 X (fun i => wr.heap.size ≤ i ∧ i < X.heap.size) (some ⟨wc.heap.size, 0, none⟩) [r] := Rd.block hnw ⟨hwz, blk_lt hnw⟩ ⟨[.int .u8 r.toNat], [], rfl, rfl, rfl⟩ (by simp)
          have hcall := written_step (x := actW ⟨q, r, false⟩) (c' := 1) (fn := 12) (args := #[.pointer (some ⟨xb, 0, none⟩), .string (kq (q % 30)), .slice (some ⟨wc.heap.size, 0, none⟩) 1 1]) I.out hfX HS.out.2.1.len HS.out.2.1.rising hrX (Nat.le_refl _) hbX HW.out.lt (fun FX hT => tx_put (row := [r]) (c := 1) (kq (q % 30)) hT hrX HS.out.2.1.len rfl (by simp))
          have HCALL := Lib.hid hcall
          clear hcall hrX hbX hnw hfX
          go_wp2_with fail
          rw [← hX]
          clear hX
          refine HCALL.out.mono ?_
          rintro e4 w4 ⟨rfl, hb4, A4, c4, hbx4, hwrite⟩
          have l0 := blk_cell hb4 0
          have l1 := blk_cell hb4 1
          have l2 := blk_cell hb4 2
          have m0 := blk_cell hbx4 0
          have m1 := blk_cell hbx4 1
          simp at l0 l1 l2 m0 m1
          have H4 := Lib.hid (And.intro hwrite hbx4)
          clear hwrite hb4 hbx4
          go_wp2_with fail
          refine H4.out.1.mono ?_
          rintro e6 w6 ⟨A6, c6, rfl, hf6, hboth⟩
          have hbx6 := hf6.blk H4.out.2 (fun f => f)
          have p0 := blk_cell hbx6 0
          have p1 := blk_cell hbx6 1
          have y0 := blk_frozen hbx6 0
          have y1 := blk_frozen hbx6 1
          simp at p0 p1
          have hlt6 : w1.heap.size < w6.heap.size := blk_lt hbx6
          have H6 := Lib.hid hboth
          clear hf6 hboth hbx6
          go_wp2_with fail
          go_roundw
          case rel => exact ⟨k + 1, by omega, by go_num, rfl, by show Both w0 _ xb w1.heap.size base (wrAll [] (l.take (k + 1))); rw [HS.out.1]; exact H6.out _⟩
          case measure => simp [intOf]; omega
        | true =>
          have hrX : Rd Ty.u8 wc (fun i => wr.heap.size ≤ i ∧ i < wc.heap.size) none ([] : Bs) := Rd.nil
          have hcall := written_step (x := actW ⟨q, r, true⟩) (c' := 0) (fn := 13) (args := #[.pointer (some ⟨xb, 0, none⟩), .string (kq (q % 30))]) I.out HW.out.fr HS.out.2.1.len HS.out.2.1.rising hrX (Nat.le_refl _) HW.out.box HW.out.lt (fun FX hT => (tx_del (kq (q % 30)) hT HS.out.2.1.len).mono fun e w' h => ⟨h.1, h.2.1.mono fun i hi _ => .inl hi, h.2.2⟩)
          have HCALL := Lib.hid hcall
          clear hcall hrX
          go_wp2_with fail
          refine HCALL.out.mono ?_
          rintro e4 w4 ⟨rfl, hb4, A4, c4, hbx4, hwrite⟩
          have l0 := blk_cell hb4 0
          have l1 := blk_cell hb4 1
          have l2 := blk_cell hb4 2
          have m0 := blk_cell hbx4 0
          have m1 := blk_cell hbx4 1
          simp at l0 l1 l2 m0 m1
          have H4 := Lib.hid (And.intro hwrite hbx4)
          clear hwrite hb4 hbx4
          go_wp2_with fail
          refine H4.out.1.mono ?_
          rintro e6 w6 ⟨A6, c6, rfl, hf6, hboth⟩
          have hbx6 := hf6.blk H4.out.2 (fun f => f)
          have p0 := blk_cell hbx6 0
          have p1 := blk_cell hbx6 1
          have y0 := blk_frozen hbx6 0
          have y1 := blk_frozen hbx6 1
          simp at p0 p1
          have hlt6 : w1.heap.size < w6.heap.size := blk_lt hbx6
          have H6 := Lib.hid hboth
          clear hf6 hboth hbx6
          go_wp2_with fail
          go_roundw
          case rel => exact ⟨k + 1, by omega, by go_num, rfl, by show Both w0 _ xb w1.heap.size base (wrAll [] (l.take (k + 1))); rw [HS.out.1]; exact H6.out _⟩
          case measure => simp [intOf]; omega
    · obtain rfl : k = l.length := by omega
      rw [List.take_length] at I
      obtain ⟨⟨FX, FM, hT, hB, hX, hM⟩, hfr, hlow⟩ := I.out
      obtain ⟨A, c, hbx, hc, hrd⟩ := hB.box
      have hbw : wr.heap[w.heap.size]? = some (.cells #[.int .i64 0, .slice none 0 0] 34 (0, 0)) := hfr.blk H.out.2.2.2 (fun f => f)
      have a0 := blk_cell hbx 0
      have a1 := blk_cell hbx 1
      have r0 := blk_cell hbw 0
      have r1 := blk_cell hbw 1
      have z0 := blk_frozen hbw 0
      have z1 := blk_frozen hbw 1
      simp at a0 a1 r0 r1
      have hb4 := blk_set (blk_set hbw 0 (.int .i64 base)) 1 (.slice A (wrAll [] l).length c)
      have d0 := blk_cell hb4 0
      have d1 := blk_cell hb4 1
      simp at d0 d1
      have hset : Fr (fun i => i = w.heap.size) wr ((wr.setCell ⟨w.heap.size, 0, none⟩ (.int .i64 base)).setCell ⟨w.heap.size, 1, none⟩ (.slice A (wrAll [] l).length c)) :=
        ((Fr.refl (fun i => i = w.heap.size) wr).set ⟨w.heap.size, 0, none⟩ (.inl rfl) _).set ⟨w.heap.size, 1, none⟩ (.inl rfl) _
      have hsz := hset.size
      have hsz0 := H.out.2.2.1
      have e1 : TxAt ((wr.setCell ⟨w.heap.size, 0, none⟩ (.int .i64 base)).setCell ⟨w.heap.size, 1, none⟩ (.slice A (wrAll [] l).length c)).drew FX xb base (wrAll [] l) := (hT.fr hset fun i hi e => by have := (hX i hi).1; omega).fr0 ((Fr.refl No _).drew)
      have e2 : Rd tWr ((wr.setCell ⟨w.heap.size, 0, none⟩ (.int .i64 base)).setCell ⟨w.heap.size, 1, none⟩ (.slice A (wrAll [] l).length c)).drew FM A (wrAll [] l) := (hrd.fr hset fun i hi e => by have := (hM i hi).1; omega).fr0 ((Fr.refl No _).drew)
      have e3 : Fr No w ((wr.setCell ⟨w.heap.size, 0, none⟩ (.int .i64 base)).setCell ⟨w.heap.size, 1, none⟩ (.slice A (wrAll [] l).length c)).drew := (hwr.trans (hset.mono fun i _ e => .inr (by omega))).drew
      have HE := Lib.hid (And.intro e1 (And.intro e2 (And.intro e3 (And.intro hc (And.intro (fun i (hi : FX i) => (⟨by have := (hX i hi).1; omega, (hX i hi).2.1, by have := (hX i hi).2.2.2; simp [World.setCell]; exact this⟩ : w.heap.size ≤ i ∧ ¬ FM i ∧ i < ((wr.setCell ⟨w.heap.size, 0, none⟩ (.int .i64 base)).setCell ⟨w.heap.size, 1, none⟩ (.slice A (wrAll [] l).length c)).drew.heap.size)) (And.intro d0 d1))))))
      clear e1 e2 e3 hT hB hX hM hfr hlow hbx hrd hbw hb4 d0 d1 hset hwr hc
      go_wp2_with fail
      go_region
      go_wp2
      obtain ⟨e1, e2, e3, hc, hdis, d0, d1⟩ := HE.out
      exact bodyPost_ret (v := .tuple #[.pointer (some ⟨xb, 0, none⟩), .agg #[.int .i64 base, .slice A (wrAll [] l).length c], .bool true]) (by simp [results, Try.results15, go_sem, d0, d1]) rfl ⟨xb, A, c, rfl, hc, ⟨FX, FM, e1, e2, hdis⟩, e3⟩
end Go.Proofs.Ytkcppngopdiljaa
/- Reference 13 (store): Scan. -/
set_option linter.unusedVariables false
set_option linter.unusedSimpArgs false
namespace Go.Proofs.Ytkcppngopdiljaa
open Go.RowKit

theorem info_ritem : (Try.prog.info? 107).map (fun i => (i.zero, i.size, i.bytes)) = some (some (.agg #[.string ⟨#[]⟩, .slice none 0 0]), 2, 40) := by kernel_rfl

theorem size_zero {b : ByteArray} (h : b.size = 0) : b = ByteArray.empty := by
  cases b with
  | mk d => cases d with
    | mk l => cases l with
      | nil => rfl
      | cons x l => exact absurd h (by show ¬ (l.length + 1 = 0); omega)
/-- What the document's loop holds at a round's head: k keys were seen. -/
structure RScanInv (w wr : World) (F : Nat → Prop) (s : Sto) (a : Int) (lo hi : ByteArray) (most : Int) (k n : Nat) (v : Value) : Prop where
  le : k ≤ s.kc.length
  len : n = ((s.kc.take k).filterMap (Sto.sel a lo hi)).length
  own : Ow tItem 107 wr (fun i => (F i ∧ i < w.heap.size) ∨ w.heap.size < i) v ((s.kc.take k).filterMap (Sto.sel a lo hi))
  most : (((s.kc.take k).filterMap (Sto.sel a lo hi)).length : Int) ≤ max most 0
  box : ∀ j, v.ownBlock = some j → w.heap.size < j
theorem RScanInv.skip {w wr wr' : World} {F : Nat → Prop} {s : Sto} {a : Int} {lo hi : ByteArray} {most : Int} {k n : Nat} {v : Value} (I : RScanInv w wr F s a lo hi most k n v) {q : ByteArray × Chn} (hk : k < s.kc.length)
    (hs : (s.kc.take (k + 1)).filterMap (Sto.sel a lo hi) = (s.kc.take k).filterMap (Sto.sel a lo hi) ++ (Sto.sel a lo hi q).toList) (hn : Sto.sel a lo hi q = none) (f : Fr No wr wr') : RScanInv w wr' F s a lo hi most (k + 1) n v := by
  rw [hn] at hs
  have e : (s.kc.take (k + 1)).filterMap (Sto.sel a lo hi) = (s.kc.take k).filterMap (Sto.sel a lo hi) := by simpa using hs
  exact ⟨hk, by rw [e]; exact I.len, by rw [e]; exact I.own.fr0 f, by rw [e]; exact I.most, I.box⟩

theorem RScanInv.add {w wr W w' : World} {F : Nat → Prop} {s : Sto} {a : Int} {lo hi : ByteArray} {most : Int} {k n c2 c : Nat} {A2 A : Option Addr} (I : RScanInv w wr F s a lo hi most k n (.slice A2 n c2)) {q : ByteArray × Chn} {x : Item} (hk : k < s.kc.length)
    (hs : (s.kc.take (k + 1)).filterMap (Sto.sel a lo hi) = (s.kc.take k).filterMap (Sto.sel a lo hi) ++ (Sto.sel a lo hi q).toList) (hn : Sto.sel a lo hi q = some x) (hm : (n : Int) < most) (hW : w.heap.size < W.heap.size)
    (ho : Ow tItem 107 w' (fun i => ((F i ∧ i < w.heap.size) ∨ w.heap.size < i) ∨ W.heap.size ≤ i) (.slice A (n + 1) c) ((s.kc.take k).filterMap (Sto.sel a lo hi) ++ [x]))
    (hat : (Value.slice A (n + 1) c).ownBlock = (Value.slice A2 n c2).ownBlock ∨ (Value.slice A (n + 1) c).ownBlock = some W.heap.size) : RScanInv w w' F s a lo hi most (k + 1) (n + 1) (.slice A (n + 1) c) := by
  rw [hn] at hs
  have e : (s.kc.take (k + 1)).filterMap (Sto.sel a lo hi) = (s.kc.take k).filterMap (Sto.sel a lo hi) ++ [x] := hs
  have hl := I.len
  refine ⟨hk, by rw [e]; simp; omega, by rw [e]; exact ho.mono fun i hi _ => (by rcases hi with hi | hi; exact hi; exact .inr (by omega)), by rw [e]; simp; omega, fun j hj => ?_⟩
  · rcases hat with hat | hat
    · exact I.box j (by rw [← hat]; exact hj)
    · rw [hj] at hat; injection hat with hat; omega

end Go.Proofs.Ytkcppngopdiljaa
/- Laws of layer 13 (store): lots, items. -/
set_option linter.unusedVariables false
set_option linter.unusedSimpArgs false
namespace Go.Proofs.Ytkcppngopdiljaa
open Go.RowKit

theorem acts_at {α : Type} {t : Ty α} {w : World} {F : Nat → Prop} {A : Option Addr} {ls : List (List α)} (h : Rd (Ty.slice t) w F A ls) {i : Nat} (hi : i < ls.length) :
    ∃ ad A' c', A = some ad ∧ w.cell? (ad.add i) = some (.slice A' ls[i].length c') ∧ ls[i].length ≤ c' ∧ Rd t w F A' ls[i] := by
  obtain ⟨ad, cs, e, ⟨A', c', rfl, h1, h2⟩, e0, e1⟩ := h.get' hi (by show 0 < 1; omega)
  have := e0 _ rfl
  rw [show (Ty.slice t).sz = 1 from rfl, Nat.mul_one] at this
  exact ⟨ad, A', c', e, this, h1, h2⟩
def lotsB {α : Type} (ls : List (List α)) : Bool := (ls.all fun l => decide (l.length ≤ 10)) && decide (ls.length ≤ 20)

theorem law_lots {w : World} {F : Nat → Prop} {A : Option Addr} {c : Nat} {ls : List (List Actn)} (h : Rd (Ty.slice tAct) w F A ls) :
    Calls Try.prog 21 #[.slice A ls.length c] w fun e w' => e = .returned (.bool (lotsB ls)) ∧ Fr No w w' := by
  have H := Lib.hid h
  have hl := h.1
  clear h
  have hlI : (ls.length : Int) ≤ 9223372036854775807 := by omega
  go_enter Try.func21, Try.ntmps21
  go_wp2
  go_loopw [3] (fun i wr => ∃ k : Nat, k ≤ ls.length ∧ i = .int .i64 k ∧ Hid (((ls.take k).all fun l => decide (l.length ≤ 10)) = true) ∧ wr = w) (fun i _ => ls.length - (intOf i).toNat)
  case atStart => exact ⟨0, Nat.zero_le _, rfl, rfl, rfl⟩
  case round =>
    obtain ⟨k, hk, rfl, ha, rfl⟩ := hrel
    have hq0 : (0 : Int) ≤ (k : Int) := Int.natCast_nonneg _
    by_cases hlt : k < ls.length
    · obtain ⟨ad, A', c', rfl, x0, _, _⟩ := acts_at H.out hlt
      have hq1 : (k : Int) < (ls.length : Int) := by omega
      have hst : ((ls.take (k + 1)).all fun l => decide (l.length ≤ 10)) = decide (ls[k].length ≤ 10) := by
        rw [List.take_succ_eq_append_getElem hlt, List.all_append, ha.out]; simp
      have hno : ¬ ls[k].length ≤ 10 → lotsB ls = false := fun h10 => by
        unfold lotsB
        have : (ls.all fun l => decide (l.length ≤ 10)) = false := by
          rw [List.all_eq_false]
          exact ⟨ls[k], List.getElem_mem _, by simpa using h10⟩
        rw [this]; rfl
      have hin : (ls[k].length : Int) ≤ 9223372036854775807 := by
        obtain ⟨_, _, _, _, _, _, hr⟩ := acts_at H.out hlt
        have := hr.1
        omega
      have HS := Lib.hid (And.intro hst hno)
      clear hst hno
      generalize ls[k].length = n at *
      by_cases h10 : n ≤ 10
      · go_wp2
        go_roundw
        case rel => exact ⟨k + 1, by omega, by go_num, by show _ = _; rw [HS.out.1]; exact decide_eq_true h10, by first | rfl | trivial⟩
        case measure => simp [intOf]; omega
      · go_wp2
        go_ret
        exact ⟨by rw [HS.out.2 h10]; rfl, Fr.refl _ _⟩
    · obtain rfl : k = ls.length := by omega
      rw [List.take_length] at ha
      have hr : lotsB ls = decide ((ls.length : Int) ≤ 20) := by
        unfold lotsB
        rw [ha.out, Bool.true_and]
        simp only [decide_eq_decide]; omega
      have HR := Lib.hid hr
      clear hr
      go_wp2
      go_ret
      exact ⟨by rw [HR.out]; rfl, Fr.refl _ _⟩

theorem item_at {w : World} {F : Nat → Prop} {A : Option Addr} {l : List Item} (h : Rd tItem w F A l) {i : Nat} (hi : i < l.length) :
    ∃ ad A' c', A = some ad ∧ w.cell? (ad.add (i * 2)) = some (.string l[i].1) ∧ w.cell? ⟨(ad.add (i * 2)).block, (ad.add (i * 2)).off + 1, none⟩ = some (.slice A' l[i].2.length c') ∧ l[i].2.length ≤ c' ∧ Rd Ty.u8 w F A' l[i].2 := by
  obtain ⟨ad, cs, e, hk, e0, e1⟩ := h.get' hi (by decide)
  obtain ⟨A', c', rfl, h1, h2⟩ := tItem_open hk
  exact ⟨ad, A', c', e, e0 _ rfl, e1 1 _ (by decide) rfl, h1, h2⟩

set_option maxHeartbeats 2000000 in
set_option maxRecDepth 100000 in
theorem law_items {w : World} {F G : Nat → Prop} {A B : Option Addr} {c d : Nat} {l m : List Item} (h : Rd tItem w F A l) (k : Rd tItem w G B m) (hk : ∀ x ∈ l, x.1.size ≤ 9223372036854775807) :
    Calls Try.prog 28 #[.slice A l.length c, .slice B m.length d] w fun e w' => e = .returned (.bool (decide (l = m))) ∧ Fr No w w' := by
  have hx := h.1
  have hy := k.1
  by_cases hl : l.length = m.length
  · have H := Lib.hid (And.intro h k)
    clear h k hk
    go_enter Try.func28, Try.ntmps28
    go_wp2
    go_loopw [5] (fun i wr => ∃ k : Nat, k ≤ l.length ∧ i = .int .i64 k ∧ Hid (l.take k = m.take k) ∧ Hid (Fr No w wr)) (fun i _ => l.length - (intOf i).toNat)
    case atStart => exact ⟨0, Nat.zero_le _, rfl, by show _ = _; simp, Fr.refl _ _⟩
    case round =>
      obtain ⟨k, hk, rfl, ht, hf⟩ := hrel
      have hk0 : (0 : Int) ≤ (k : Int) := Int.natCast_nonneg _
      by_cases hlt : k < l.length
      · obtain ⟨a1, A1, c1, rfl, x0, x1, hc1, hr1⟩ := item_at (H.out.1.fr0 hf.out) hlt
        obtain ⟨a2, A2, c2, rfl, y0, y1, hc2, hr2⟩ := item_at (H.out.2.fr0 hf.out) (i := k) (by omega)
        have hk1 : (k : Int) < (l.length : Int) := by omega
        have hk2 : (k : Int) < (m.length : Int) := by omega
        have hk3 : k < m.length := by omega
        have hnext : l[k] = m[k] → l.take (k + 1) = m.take (k + 1) := fun e => by
          rw [List.take_succ_eq_append_getElem (l := l) hlt, List.take_succ_eq_append_getElem (l := m) hk3, ht.out, e]
        have hno : l[k] ≠ m[k] → l ≠ m := fun h e => by subst e; exact h rfl
        have hby := fun n => ref_bytes_q (w := wr.drewN n) (c := c1) (d := c2) (hr1.fr0 ((Fr.refl No wr).drewN n)) (hr2.fr0 ((Fr.refl No wr).drewN n))
        obtain ⟨p, hp⟩ : ∃ p, l[k] = p := ⟨_, rfl⟩
        obtain ⟨q, hq⟩ : ∃ q, m[k] = q := ⟨_, rfl⟩
        rw [hp] at x0 x1 hby hnext hno
        rw [hq] at y0 y1 hby hnext hno
        have HN := Lib.hid (And.intro hnext (And.intro hno hby))
        clear hnext hno ht hby hp hq hc1 hr1 hc2 hr2
        cases he : (p.1.toList == q.1.toList)
        · have hne : p ≠ q := fun e => by subst e; simp at he
          have HE := Lib.hid (HN.out.2.1 hne)
          clear hne
          go_wp2
          go_quiet (fail)
          go_wp2
          go_ret
          exact ⟨by rw [decide_eq_false HE.out]; rfl, hf.out.drewN _⟩
        · have hpq : p.1 = q.1 := by rw [beq_toList] at he; simpa using he
          cases hb : decide (p.2 = q.2)
          · have hne : p ≠ q := fun e => by subst e; simp at hb
            have hby := HN.out.2.2
            rw [hb] at hby
            have HBy := Lib.hid hby
            have HE := Lib.hid (HN.out.2.1 hne)
            clear hne hb hpq hby
            go_wp2
            go_quiet ((go_at_call 20; exact Calls.quiet_of (HBy.out _)))
            go_wp2
            go_ret
            exact ⟨by rw [decide_eq_false HE.out]; rfl, hf.out.drewN _⟩
          · have hpq2 : p = q := Prod.ext hpq (of_decide_eq_true hb)
            have hby := HN.out.2.2
            rw [hb] at hby
            have HBy := Lib.hid hby
            have HE := Lib.hid (HN.out.1 hpq2)
            clear hpq2 hb hpq hby
            go_wp2
            go_quiet ((go_at_call 20; exact Calls.quiet_of (HBy.out _)))
            go_wp2
            go_roundw
            case rel => exact ⟨k + 1, by omega, by go_num, HE.out, hf.out.drewN _⟩
            case measure => simp [intOf]; omega
      · obtain rfl : k = l.length := by omega
        have : l = m := by have := ht.out; rw [List.take_length, hl, List.take_length] at this; exact this
        subst this
        go_wp2
        go_ret
        exact ⟨by simp, hf.out⟩
  · have hne : l ≠ m := fun e => hl (by rw [e])
    rw [decide_eq_false hne]
    have hl' : (l.length : Int) ≠ (m.length : Int) := fun e => hl (by omega)
    clear h k hne hl hk
    go_enter Try.func28, Try.ntmps28
    go_wp2
    go_ret
    exact ⟨rfl, Fr.refl _ _⟩
end Go.Proofs.Ytkcppngopdiljaa
/- Reference 13 (store): Apply. -/
set_option linter.unusedVariables false
set_option linter.unusedSimpArgs false
namespace Go.Proofs.Ytkcppngopdiljaa
open Go.RowKit

/-- What stands while the document's Apply goes on: its three boxes at w's end. -/
structure RBox (w wr : World) (A B D : Option Addr) (c d e : Nat) (s : Sto) (n : Int) (ws : List Wr) : Prop where
  b0 : wr.heap[w.heap.size]? = some (.cells #[.slice A s.kc.length c, .slice B s.kc.length d, .int .i64 s.now] 55 (0, 0))
  b1 : wr.heap[w.heap.size + 1]? = some (.cells #[.int .i64 n, .slice D ws.length e] 40 (0, 0))
  b2 : wr.heap[w.heap.size + 2]? = some (.cells #[.slice none 0 0, .slice none 0 0, .int .i64 0] 55 (0, 0))
  fr : Fr No w wr
theorem RBox.step {w wr w' : World} {A B D : Option Addr} {c d e : Nat} {s : Sto} {n : Int} {ws : List Wr} (h : RBox w wr A B D c d e s n ws) {S : Nat → Prop} (f : Fr S wr w') (hS : ∀ i, S i → w.heap.size + 2 < i) : RBox w w' A B D c d e s n ws :=
  ⟨f.blk h.b0 (fun h => by have := hS _ h; omega), f.blk h.b1 (fun h => by have := hS _ h; omega), f.blk h.b2 (fun h => by have := hS _ h; omega), h.fr.trans (f.mono fun i _ hi => .inr (by have := hS _ hi; omega))⟩
theorem RBox.fr0 {w wr w' : World} {A B D : Option Addr} {c d e : Nat} {s : Sto} {n : Int} {ws : List Wr} (h : RBox w wr A B D c d e s n ws) (f : Fr No wr w') : RBox w w' A B D c d e s n ws := h.step f fun _ f => f.elim
theorem RBox.size {w wr : World} {A B D : Option Addr} {c d e : Nat} {s : Sto} {n : Int} {ws : List Wr} (h : RBox w wr A B D c d e s n ws) : w.heap.size + 3 ≤ wr.heap.size := blk_lt h.b2

/-- What stands behind the new store's making: its keys; its block bo. -/
structure ROut (w wr wx : World) (A B D : Option Addr) (c d e : Nat) (s : Sto) (n : Int) (ws : List Wr) (K : List ByteArray) (bo : Nat) : Prop where
  box : RBox w wx A B D c d e s n ws
  lt : w.heap.size + 2 < bo
  out : ∃ A5 c5, wx.heap[bo]? = some (.cells #[.slice A5 K.length c5, .slice none 0 0, .int .i64 n] 55 (0, 0)) ∧ K.length ≤ c5 ∧ Rd Ty.str wx (fun i => wr.heap.size ≤ i ∧ i ≠ bo) A5 K

theorem rout_before {w wr w0 w5 : World} {A B D A5 : Option Addr} {c d e c5 : Nat} {s : Sto} {n : Int} {ws : List Wr} {K : List ByteArray} (hB : RBox w wr A B D c d e s n ws) (hw0 : Fr No wr w0) (hs0 : wr.heap.size + 1 ≤ w0.heap.size)
    (hb : w0.heap[wr.heap.size]? = some (.cells #[.slice none 0 0, .slice none 0 0, .int .i64 0] 55 (0, 0))) (ho : Ow Ty.str 9 w5 (fun k => w0.heap.size ≤ k) (.slice A5 K.length c5) K) (hf : Fr No w0 w5) :
    ROut w wr (((w5.setCell ⟨wr.heap.size, 0, none⟩ (.slice A5 K.length c5)).setCell ⟨wr.heap.size, 1, none⟩ (.slice none 0 0)).setCell ⟨wr.heap.size, 2, none⟩ (.int .i64 n)) A B D c d e s n ws K wr.heap.size := by
  have hsz := hB.size
  have h5 : Fr No wr w5 := hw0.trans (hf.mono fun _ _ f => f.elim)
  have hb4 := blk_set (blk_set (blk_set (hf.blk hb (fun f => f)) 0 (.slice A5 K.length c5)) 1 (.slice none 0 0)) 2 (.int .i64 n)
  have hn : ¬ (w0.heap.size ≤ wr.heap.size) := by omega
  have ho2 := ((ho.set ⟨wr.heap.size, 0, none⟩ hn (.slice A5 K.length c5)).set ⟨wr.heap.size, 1, none⟩ hn (.slice none 0 0)).set ⟨wr.heap.size, 2, none⟩ hn (.int .i64 n)
  have h6 : Fr (fun i => i = wr.heap.size) wr w5 := h5.mono fun _ _ f => f.elim
  have h7 := ((h6.set ⟨wr.heap.size, 0, none⟩ (.inl rfl) (.slice A5 K.length c5)).set ⟨wr.heap.size, 1, none⟩ (.inl rfl) (.slice none 0 0)).set ⟨wr.heap.size, 2, none⟩ (.inl rfl) (.int .i64 n)
  refine ⟨hB.step h7 (fun i e => by omega), by omega, A5, c5, by simpa using hb4, ho2.rd.2.1, ho2.rd.2.2.mono fun i hi _ => ?_⟩
  have hi' : w0.heap.size ≤ i := hi
  exact ⟨by omega, by omega⟩
theorem rout_behind {w wr w0 w5 : World} {A B D A5 : Option Addr} {c d e c5 : Nat} {s : Sto} {n : Int} {ws : List Wr} {K : List ByteArray} (hB : RBox w wr A B D c d e s n ws) (hw0 : Fr No wr w0)
    (ho : Ow Ty.str 9 w5 (fun k => w0.heap.size ≤ k) (.slice A5 K.length c5) K) (hf : Fr No w0 w5) :
    ROut w wr (w5.alloc (.cells #[.slice A5 K.length c5, .slice none 0 0, .int .i64 n] 55)) A B D c d e s n ws K w5.heap.size := by
  have hsz := hB.size
  have h5 : Fr No wr w5 := hw0.trans (hf.mono fun _ _ f => f.elim)
  have hs0 := hw0.size
  have hs5 := h5.size
  have ho2 := ho.fr0 ((Fr.refl No w5).alloc (.cells #[.slice A5 K.length c5, .slice none 0 0, .int .i64 n] 55))
  refine ⟨hB.fr0 (h5.alloc _), by omega, A5, c5, heap_alloc_new w5 _, ho2.rd.2.1, ((ho.rd.2.2.mono fun i hi hl => (⟨hi, hl⟩ : w0.heap.size ≤ i ∧ i < w5.heap.size)).fr0 ((Fr.refl No w5).alloc _)).mono fun i hi _ => ⟨by have := hi.1; omega, by have := hi.2; omega⟩⟩


theorem nodup_not_take {α : Type} {l : List α} (h : l.Nodup) {i : Nat} (hi : i < l.length) : l[i] ∉ l.take i := by
  intro hm
  obtain ⟨j, hj, e⟩ := List.getElem_of_mem hm
  rw [List.getElem_take] at e
  rw [List.length_take] at hj
  exact List.pairwise_iff_getElem.1 h j i (by omega) hi (by omega) e

/-- What stands in the inner loop: a key's chain in a box of its own. -/
structure RChn (w wr wx : World) (F : Nat → Prop) (c : Chn) (b : Nat) : Prop where
  lt : wr.heap.size ≤ b
  fr : Fr No wr wx
  box : ∃ A' c', wx.heap[b]? = some (.cells #[.slice A' c.l.length c', .int .i64 c.last] 119 (0, 0)) ∧ c.l.length ≤ c' ∧ Rd tVer wx (fun i => (F i ∧ i < w.heap.size) ∨ (wr.heap.size ≤ i ∧ i ≠ b)) A' c.l
theorem RChn.fr0 {w wr wx w' : World} {F : Nat → Prop} {c : Chn} {b : Nat} (h : RChn w wr wx F c b) (f : Fr No wx w') : RChn w wr w' F c b := by
  obtain ⟨h1, h2, A', c', h3, h4, h5⟩ := h
  exact ⟨h1, h2.trans (f.mono fun _ _ f => f.elim), A', c', f.blk h3 (fun f => f), h4, h5.fr0 f⟩
/-- The box is made ahead of the call, or behind it. -/
theorem rchn_before {w wr w0 w6 : World} {F : Nat → Prop} {c : Chn} {A' : Option Addr} {c' : Nat} (hw : w.heap.size ≤ wr.heap.size) (hw0 : Fr No wr w0) (hb : w0.heap[wr.heap.size]? = some (.cells #[.slice none 0 0, .int .i64 0] 119 (0, 0)))
    (hf : Fr No w0 w6) (hc : c.l.length ≤ c') (hr : Rd tVer w6 (fun i => F i ∧ i < w.heap.size) A' c.l) :
    RChn w wr ((w6.setCell ⟨wr.heap.size, 0, none⟩ (.slice A' c.l.length c')).setCell ⟨wr.heap.size, 1, none⟩ (.int .i64 c.last)) F c wr.heap.size := by
  have h6 : Fr No wr w6 := hw0.trans (hf.mono fun _ _ f => f.elim)
  have hb6 := blk_set (blk_set (hf.blk hb (fun f => f)) 0 (.slice A' c.l.length c')) 1 (.int .i64 c.last)
  have hn : ¬ (F wr.heap.size ∧ wr.heap.size < w.heap.size) := fun h => by have := h.2; omega
  exact ⟨Nat.le_refl _, (h6.set ⟨wr.heap.size, 0, none⟩ (.inr (Nat.le_refl _)) _).set ⟨wr.heap.size, 1, none⟩ (.inr (Nat.le_refl _)) _, A', c', by simpa using hb6, hc, ((hr.set2 ⟨wr.heap.size, 0, none⟩ hn _).set2 ⟨wr.heap.size, 1, none⟩ hn _).mono fun i hi _ => .inl hi⟩
theorem rchn_behind {w wr w0 w6 : World} {F : Nat → Prop} {c : Chn} {A' : Option Addr} {c' : Nat} (hw0 : Fr No wr w0)
    (hf : Fr No w0 w6) (hc : c.l.length ≤ c') (hr : Rd tVer w6 (fun i => F i ∧ i < w.heap.size) A' c.l) :
    RChn w wr (w6.alloc (.cells #[.slice A' c.l.length c', .int .i64 c.last] 119)) F c w6.heap.size := by
  have h6 : Fr No wr w6 := hw0.trans (hf.mono fun _ _ f => f.elim)
  exact ⟨h6.size, h6.alloc _, A', c', heap_alloc_new w6 _, hc, (hr.fr0 ((Fr.refl No w6).alloc _)).mono fun i hi _ => .inl hi⟩
/-- Another chain is laid into the box. -/
theorem RChn.put {w wr wx w2 : World} {F G : Nat → Prop} {c c2 : Chn} {b : Nat} {A' : Option Addr} {c' : Nat} (h : RChn w wr wx F c b) (f : Fr No wx w2) (hc : c2.l.length ≤ c') (hr : Rd tVer w2 G A' c2.l) (hG : ∀ i, G i → (F i ∧ i < w.heap.size) ∨ (wr.heap.size ≤ i ∧ i ≠ b)) (hw : w.heap.size ≤ wr.heap.size) :
    RChn w wr ((w2.setCell ⟨b, 0, none⟩ (.slice A' c2.l.length c')).setCell ⟨b, 1, none⟩ (.int .i64 c2.last)) F c2 b := by
  obtain ⟨h1, h2, A0, c0, h3, h4, h5⟩ := h
  have h6 : Fr No wr w2 := h2.trans (f.mono fun _ _ f => f.elim)
  have hb6 := blk_set (blk_set (f.blk h3 (fun f => f)) 0 (.slice A' c2.l.length c')) 1 (.int .i64 c2.last)
  have hn : ¬ G b := fun h => by
    rcases hG _ h with h | h
    · have := h.2; omega
    · exact h.2 rfl
  exact ⟨h1, (h6.set ⟨b, 0, none⟩ (.inr h1) _).set ⟨b, 1, none⟩ (.inr h1) _, A', c', by simpa using hb6, hc, ((hr.set2 ⟨b, 0, none⟩ hn _).set2 ⟨b, 1, none⟩ hn _).mono fun i hi _ => hG i hi⟩

/-- What stands at the outer loop's head: so many chains lie in the new store. -/
structure RAppI (w wc wr : World) (F : Nat → Prop) (s : Sto) (n : Int) (ws : List Wr) (K : List ByteArray) (A5 : Option Addr) (c5 bo k : Nat) (v : Value) : Prop where
  le : k ≤ K.length
  blk : wr.heap[bo]? = some (.cells #[.slice A5 K.length c5, v, .int .i64 n] 55 (0, 0))
  own : Ow tChn 119 wr (fun i => (F i ∧ i < w.heap.size) ∨ wc.heap.size ≤ i) v ((K.take k).map fun k => upd n ws k (s.of k))
  box : ∀ j, v.ownBlock = some j → wc.heap.size ≤ j
  fr : Fr (fun i => i = bo) wc wr

theorem rapp_next {w wc wr wx w3 : World} {F : Nat → Prop} {s : Sto} {n : Int} {ws : List Wr} {K : List ByteArray} {A5 A3 : Option Addr} {c5 c3 bo k b : Nat} {v : Value} {x : Chn} {o : Obj} (hbo : bo < wc.heap.size) (hbw : w.heap.size ≤ bo)
    (I : RAppI w wc wr F s n ws K A5 c5 bo k v) (hx : RChn w wr wx F x b) (ho : Ow tChn 119 w3 (fun i => ((F i ∧ i < w.heap.size) ∨ wc.heap.size ≤ i) ∨ (wx.alloc o).heap.size ≤ i) (.slice A3 (k + 1) c3) (((K.take k).map fun k => upd n ws k (s.of k)) ++ [x]))
    (hg : (wx.alloc o).grownBy w3 v.ownBlock) (hat : (Value.slice A3 (k + 1) c3).ownBlock = v.ownBlock ∨ (Value.slice A3 (k + 1) c3).ownBlock = some (wx.alloc o).heap.size) :
    w3.heap[bo]? = some (.cells #[.slice A5 K.length c5, v, .int .i64 n] 55 (0, 0)) ∧
    (w3.setCell ⟨bo, 1, none⟩ (.slice A3 (k + 1) c3)).heap[bo]? = some (.cells #[.slice A5 K.length c5, .slice A3 (k + 1) c3, .int .i64 n] 55 (0, 0)) ∧
    Ow tChn 119 (w3.setCell ⟨bo, 1, none⟩ (.slice A3 (k + 1) c3)) (fun i => (F i ∧ i < w.heap.size) ∨ wc.heap.size ≤ i) (.slice A3 (k + 1) c3) (((K.take k).map fun k => upd n ws k (s.of k)) ++ [x]) ∧
    (∀ j, (Value.slice A3 (k + 1) c3).ownBlock = some j → wc.heap.size ≤ j) ∧ Fr (fun i => i = bo) wc (w3.setCell ⟨bo, 1, none⟩ (.slice A3 (k + 1) c3)) := by
  have hwr := I.fr.size
  have hxs := hx.fr.size
  have hb2 : (wx.alloc o).heap[bo]? = some (.cells #[.slice A5 K.length c5, v, .int .i64 n] 55 (0, 0)) := ((hx.fr).alloc o).blk I.blk (fun f => f)
  have hb3 := (hg.block bo (blk_lt hb2) (fun e => by have := I.box _ e.symm; omega)).trans hb2
  have hb4 := blk_set hb3 1 (.slice A3 (k + 1) c3)
  have hn : ¬ (((F bo ∧ bo < w.heap.size) ∨ wc.heap.size ≤ bo) ∨ (wx.alloc o).heap.size ≤ bo) := by simp; omega
  refine ⟨hb3, by simpa using hb4, (ho.set ⟨bo, 1, none⟩ hn _).mono fun i hi _ => ?_, fun j hj => ?_, ?_⟩
  · rcases hi with hi | hi
    · exact hi
    · simp at hi; exact .inr (by omega)
  · rcases hat with hat | hat
    · exact I.box j (by rw [← hat]; exact hj)
    · rw [hj] at hat; injection hat with hat; simp at hat; omega
  · have h1 : Fr (fun i => i = bo) wc (wx.alloc o) := (I.fr.trans (hx.fr.mono fun _ _ f => f.elim)).alloc o
    have h3 : Fr (fun i => i = bo) wc w3 := h1.grown hg fun j hj => .inr (I.box j hj)
    exact h3.set _ (.inl rfl) _

theorem Sto.Fine.last_le {s : Sto} {m : Nat} (h : s.Fine m) (k : ByteArray) : (s.of k).last ≤ s.now := by
  unfold Sto.of
  cases hl : look k s.kc with
  | none => exact h.small.now0
  | some c => exact (h.small.chains _ (look_mem hl)).2.1

theorem cell_set2 {w : World} {a : Addr} {v : Value} (h : w.cell? a = some v) {g : Nat} (hg : a.block < g) (u1 u2 : Value) : ((w.setCell ⟨g, 0, none⟩ u1).setCell ⟨g, 1, none⟩ u2).cell? a = some v :=
  (World.cell?_of_block ((Below.heap_setCell _ _ _ _ (by show a.block ≠ g; omega)).trans (Below.heap_setCell _ _ _ _ (by show a.block ≠ g; omega)))).trans h

set_option maxHeartbeats 4000000 in
set_option maxRecDepth 100000 in
theorem ref_apply_ok {w : World} {F R : Nat → Prop} {v : Value} {s : Sto} {m : Nat} {D : Option Addr} {e : Nat} {ws : List Wr} (h : StoVal w F v s) (hs : s.Fine m) (hm : m ≤ 100000000) (hR : Rd tWr w R D ws) (hok : right (s.now + 1) ws = true) :
    Calls Try.prog 39 #[v, .agg #[.int .i64 (s.now + 1), .slice D ws.length e]] w fun e w' => ∃ u, e = .returned (.tuple #[u, .int .i64 0]) ∧ StoVal w' (fun i => F i ∨ w.heap.size ≤ i) u ⟨ws.foldl (Sto.put1 (s.now + 1)) s.kc, s.now + 1⟩ ∧ Fr No w w' := by
  obtain ⟨A, c, B, d, rfl, h1, h2, h3, h4⟩ := h
  have hlen : ws.length ≤ 64 := by
    unfold right at hok
    simp only [Bool.and_eq_true, decide_eq_true_eq] at hok
    exact hok.2.2
  have hfit : allFit ⟨#[]⟩ ws = true := by
    unfold right at hok
    simp only [Bool.and_eq_true] at hok
    exact hok.1
  have hkl : (s.kc.length : Int) ≤ 100000000 := by have := hs.small.keys; omega
  have hn0 := hs.small.now0
  have hn1 : s.now ≤ 100000000 := by have := hs.small.now1; omega
  have hright := fun w' (f : Fr No w w') => ref_right (w := w') (s.now + 1) D e ws (hR.fr0 f) (by omega) (fun x hx => by have := allFit_mem hfit x hx; omega)
  rw [hok] at hright
  obtain ⟨W, hW⟩ : ∃ W, W = ((w.alloc (.cells #[.slice A s.kc.length c, .slice B s.kc.length d, .int .i64 s.now] 55)).alloc (.cells #[.int .i64 (s.now + 1), .slice D ws.length e] 40)).alloc (.cells #[.slice none 0 0, .slice none 0 0, .int .i64 0] 55) := ⟨_, rfl⟩
  have hB : RBox w W A B D c d e s (s.now + 1) ws := ⟨by rw [hW]; exact blk_three1 .., by rw [hW]; exact blk_three2 .., by rw [hW]; exact blk_three3 .., by rw [hW]; exact (((Fr.refl No w).alloc _).alloc _).alloc _⟩
  have H := Lib.hid (And.intro h1 (And.intro h2 (And.intro (h3.mono fun i hi hl => (⟨hi, hl⟩ : F i ∧ i < w.heap.size)) (And.intro (h4.mono fun i hi hl => (⟨hi, hl⟩ : F i ∧ i < w.heap.size)) (And.intro hs (And.intro (hR.mono fun i hi hl => (⟨hi, hl⟩ : R i ∧ i < w.heap.size)) (And.intro hfit hlen)))))))
  have HR := Lib.hid (And.intro (hright W hB.fr) hB)
  clear h1 h2 h3 h4 hs hR hfit hlen hright hB hok
  go_enter Try.func39, Try.ntmps39
  go_wp2_with fail
  rw [← hW]
  clear hW
  refine HR.out.1.mono ?_
  rintro e1 w1 ⟨rfl, hf1⟩
  have hB1 := HR.out.2.fr0 hf1
  have a0 := blk_cell hB1.b0 0
  have a2 := blk_cell hB1.b0 2
  have a3 := blk_cell hB1.b1 0
  have a4 := blk_cell hB1.b1 1
  simp at a0 a2 a3 a4
  have HB1 := Lib.hid hB1
  clear hf1 hB1 HR
  go_wp2_with (at_builtin; refine ow_append Ty.str (Ow.nil (F := fun i => w.heap.size + 2 < i)) _ _ (.string ⟨#[]⟩) 16 rfl rfl Try.underlying52 info_str rfl (by decide) (by decide) rfl rfl (by rw [List.length_map]) ((H.out.2.2.1.fr0 HB1.out.fr).at.choose_spec.1.imp fun _ _ h => h) (H.out.2.2.1.fr0 HB1.out.fr).at.choose_spec.2 (by simp; omega) ?_
               intro A2 c2 w2 hown2 hg2 hat2
               simp only [List.length_nil, Nat.zero_add, List.nil_append, List.length_map] at hown2 ⊢
               have hf2 : Fr No w1 w2 := (Fr.refl No w1).grown hg2 fun k hk => by simp [Value.ownBlock] at hk
               have hB2 := HB1.out.fr0 hf2
               have hown3 : Ow Ty.str 9 w2 (fun i => w.heap.size + 2 < i) (.slice A2 s.kc.length c2) (s.kc.map Prod.fst) := hown2.mono fun i hi _ => by
                 rcases hi with hi | hi
                 · exact hi
                 · have := HB1.out.size; show w.heap.size + 2 < i; omega
               have H2 := Lib.hid (And.intro hown3 hB2)
               clear hown2 hg2 hat2 hf2 hB2 hown3)
  go_loopw [6, 7] (fun v i wr => ∃ (k : Nat) (A3 : Option Addr) (c3 : Nat), k ≤ ws.length ∧ i = .int .i64 k ∧ v = .slice A3 (s.kc.length + k) c3 ∧ Hid (Ow Ty.str 9 wr (fun i => w.heap.size + 2 < i) (.slice A3 (s.kc.length + k) c3) (s.kc.map Prod.fst ++ (ws.take k).map Wr.key)) ∧ Hid (RBox w wr A B D c d e s (s.now + 1) ws)) (fun _ i _ => ws.length - (intOf i).toNat)
  case atStart => exact ⟨0, A2, c2, Nat.zero_le _, rfl, rfl, by show Ow _ _ _ _ _ _; simpa using H2.out.1, H2.out.2⟩
  case round =>
    obtain ⟨k, A3, c3, hk, rfl, rfl, hO, hB⟩ := hrel
    have hq0 : (0 : Int) ≤ (k : Int) := Int.natCast_nonneg _
    have hl64 : (ws.length : Int) ≤ 64 := by have := H.out.2.2.2.2.2.2.2; omega
    have a0 := blk_cell hB.out.b0 0
    have a1 := blk_cell hB.out.b0 1
    have a2 := blk_cell hB.out.b0 2
    have a3 := blk_cell hB.out.b1 0
    have a4 := blk_cell hB.out.b1 1
    simp at a0 a1 a2 a3 a4
    by_cases hlt : k < ws.length
    · have hq1 : (k : Int) < (ws.length : Int) := by omega
      obtain ⟨ad, A', c', rfl, x0, _, _, _, _⟩ := wr_at (H.out.2.2.2.2.2.1.fr0 hB.out.fr) hlt
      have htk : (ws.take (k + 1)).map Wr.key = (ws.take k).map Wr.key ++ [ws[k].key] := by rw [List.take_succ_eq_append_getElem hlt, List.map_append]; rfl
      have hlk : (s.kc.map Prod.fst ++ (ws.take k).map Wr.key).length = s.kc.length + k := by rw [List.length_append, List.length_map, List.length_map, List.length_take]; omega
      have HT := Lib.hid (And.intro htk hlk)
      clear htk hlk
      generalize ws[k].key = x at *
      go_wp2_with (at_builtin; refine ow_append Ty.str (ys := [x]) (hO.out.fr0 ((Fr.refl No wr).alloc _)) _ _ (.string ⟨#[]⟩) 16 rfl rfl Try.underlying52 info_str rfl (by decide) (by decide) rfl rfl rfl (Row.single (t := Ty.str) (x := x) (c := [.string x]) rfl) (At.block (heap_alloc_new _ _)) (by rw [HT.out.2]; simp; omega) ?_
                   intro A4 c4 w4 hown4 hg4 hat4
                   have hlen4 : _ + [x].length = s.kc.length + (k + 1) := congrArg (· + 1) HT.out.2
                   rw [hlen4] at hown4 ⊢
                   have hown5 : Ow Ty.str 9 w4 (fun i => w.heap.size + 2 < i) (.slice A4 (s.kc.length + (k + 1)) c4) ((s.kc.map Prod.fst ++ (ws.take k).map Wr.key) ++ [x]) := hown4.mono fun i hi _ => by
                     rcases hi with hi | hi
                     · exact hi
                     · have := hB.out.size; simp at hi; show w.heap.size + 2 < i; omega
                   have hB4 : RBox w w4 A B (some ad) c d e s (s.now + 1) ws := (hB.out.fr0 ((Fr.refl No wr).alloc _)).step ((Fr.refl (fun i => some i = (Value.slice A3 (s.kc.length + k) c3).ownBlock) _).grown hg4 fun j hj => .inl hj.symm) fun i hi => (hO.out.own hi.symm).1
                   have H4 := Lib.hid (And.intro hown5 hB4)
                   clear hown4 hg4 hat4 hlen4 hown5 hB4)
      go_roundw
      case rel => exact ⟨k + 1, A4, c4, by omega, by go_num, rfl, by rw [HT.out.1, ← List.append_assoc]; exact H4.out.1, H4.out.2⟩
      case measure => simp [intOf]; omega
    · obtain rfl : k = ws.length := by omega
      rw [List.take_length] at hO
      have hlk : (s.kc.map Prod.fst ++ ws.map Wr.key).length = s.kc.length + ws.length := by rw [List.length_append, List.length_map, List.length_map]
      have hrise := fun w' (f : Fr No wr w') => ref_rise (cp := c3) (hO.out.rd.2.2.fr0 f) (by rw [hlk]; omega)
      rw [hlk] at hrise
      have HRise := Lib.hid hrise
      clear hrise hlk
      have a3a := fun o => cell_alloc a3 o
      go_wp2_with fail
      go_cut [8] (fun s8 wx => ∃ bo : Nat, s8 = .pointer (some ⟨bo, 0, none⟩) ∧ Hid (ROut w wr wx A B D c d e s (s.now + 1) ws (rise (s.kc.map Prod.fst ++ ws.map Wr.key)) bo))
      case first =>
        go_region_law
          (first
            | (go_simp; go_at_call 51; refine (HRise.out _ (by repeat (first | exact Fr.refl _ _ | apply Fr.alloc | apply Fr.drew | apply Fr.drewN))).mono ?_; rintro e5 w5 ⟨A5, c5, rfl, ho5, hf5⟩
               have k0 : w5.cell? ⟨w.heap.size + 1, 0, none⟩ = some (.int .i64 (s.now + 1)) := hf5.cell (by first | exact a3 | exact cell_alloc a3 _) (fun f => f)
               have k0a := fun o => cell_alloc k0 o
               first
                 | (have bN : w5.heap[wr.heap.size]? = some (.cells #[.slice none 0 0, .slice none 0 0, .int .i64 0] 55 (0, 0)) := hf5.blk (heap_alloc_new _ _) (fun f => f)
                    have n0 := blk_cell bN 0
                    have n1 := blk_cell bN 1
                    have n2 := blk_cell bN 2
                    have y0 := blk_frozen bN 0
                    have y1 := blk_frozen bN 1
                    have y2 := blk_frozen bN 2
                    simp at n0 n1 n2)
                 | skip
               have H5 := Lib.hid (And.intro ho5 hf5)
               clear ho5 hf5))
        all_goals go_wp2_with fail
        all_goals go_meet
        all_goals first
          | exact ⟨_, rfl, rout_behind hB.out (by repeat (first | exact Fr.refl _ _ | apply Fr.alloc | apply Fr.drew | apply Fr.drewN)) H5.out.1 H5.out.2⟩
          | (refine ⟨_, rfl, rout_before hB.out ?_ ?_ ?_ H5.out.1 H5.out.2⟩
             · repeat (first | exact Fr.refl _ _ | apply Fr.alloc | apply Fr.drew | apply Fr.drewN)
             · simp
             · exact heap_alloc_new wr _)
      case rest =>
        obtain ⟨bo, rfl, HO1⟩ := hcut
        obtain ⟨hBx, hlb, A5, c5, hbo, hK5, hrK⟩ := HO1.out
        obtain ⟨K, hKe⟩ : ∃ K, rise (s.kc.map Prod.fst ++ ws.map Wr.key) = K := ⟨_, rfl⟩
        rw [hKe] at hbo hK5 hrK HO1
        have hKl : K.length ≤ 100000064 := by
          rw [← hKe]
          have := rise_length (s.kc.map Prod.fst ++ ws.map Wr.key)
          rw [List.length_append, List.length_map, List.length_map] at this
          omega
        have HK := Lib.hid (And.intro hKe (And.intro hBx (And.intro hbo (And.intro hK5 (hrK.mono fun i hi hl => (⟨hi, hl⟩ : (wr.heap.size ≤ i ∧ i ≠ bo) ∧ i < wc.heap.size))))))
        clear hKe hBx hbo hK5 hrK HO1 HRise H2 HB1 a0 a1 a2 a3 a4 a3a
        have hbw : w.heap.size ≤ bo := by omega
        have hbc : bo < wc.heap.size := blk_lt HK.out.2.2.1
        have hKi : (K.length : Int) ≤ 100000064 := by omega
        go_wp2_with fail
        go_loopw [9] (fun i wo => ∃ (q : Nat) (v : Value), i = .int .i64 q ∧ Hid (RAppI w wc wo F s (s.now + 1) ws K A5 c5 bo q v)) (fun i _ => K.length - (intOf i).toNat)
        case atStart => exact ⟨0, .slice none 0 0, rfl, ⟨Nat.zero_le _, HK.out.2.2.1, by simpa using Ow.nil, fun j hj => by simp [Value.ownBlock] at hj, Fr.refl _ _⟩⟩
        case round =>
          obtain ⟨wo, hwo⟩ : ∃ wo, wo = wr := ⟨_, rfl⟩
          subst hwo
          obtain ⟨q, v, rfl, I⟩ := hrel
          obtain ⟨A2, cv, rfl, hc2, hr2⟩ := I.out.own.slice
          clear hc2 hr2
          have hlk : ((K.take q).map fun k => upd (s.now + 1) ws k (s.of k)).length = q := by rw [List.length_map, List.length_take]; have := I.out.le; omega
          rw [hlk] at I
          have HLk := Lib.hid hlk
          clear hlk
          have hBx := HK.out.2.1.step I.out.fr (fun i e => by omega)
          have a0 := blk_cell hBx.b0 0
          have a1 := blk_cell hBx.b0 1
          have a2 := blk_cell hBx.b0 2
          have n0 := blk_cell I.out.blk 0
          have n1 := blk_cell I.out.blk 1
          have n2 := blk_cell I.out.blk 2
          simp at a0 a1 a2 n0 n1 n2
          have HBx := Lib.hid hBx
          clear hBx
          have hq0 : (0 : Int) ≤ (q : Int) := Int.natCast_nonneg _
          by_cases hlt : q < K.length
          · have hq1 : (q : Int) < (K.length : Int) := by omega
            obtain ⟨adk, rfl, x0⟩ := str_at (HK.out.2.2.2.2.fr I.out.fr fun i hi e => hi.1.2 e) hlt
            obtain ⟨key, hkey⟩ : ∃ key, K[q] = key := ⟨_, rfl⟩
            rw [hkey] at x0
            have htk : (K.take (q + 1)).map (fun k => upd (s.now + 1) ws k (s.of k)) = (K.take q).map (fun k => upd (s.now + 1) ws k (s.of k)) ++ [upd (s.now + 1) ws key (s.of key)] := by rw [List.take_succ_eq_append_getElem hlt, List.map_append, hkey]; rfl
            have hof := fun w' (f : Fr No wo w') => ref_of (w := w') (F := fun i => F i ∧ i < w.heap.size) (s := s) key ⟨A, c, B, d, rfl, H.out.1, H.out.2.1, (H.out.2.2.1.fr0 HBx.out.fr).fr0 f, (H.out.2.2.2.1.fr0 HBx.out.fr).fr0 f⟩ (by omega) H.out.2.2.2.2.1.rising
            have hokc := H.out.2.2.2.2.1.ok key
            have hlast := H.out.2.2.2.2.1.last_le key
            have HX := Lib.hid (And.intro htk (And.intro hof (And.intro hokc hlast)))
            clear htk hof hokc hlast hkey
            go_wp2_with fail
            go_cut [10] (fun s10 wx => ∃ b : Nat, s10 = .pointer (some ⟨b, 0, none⟩) ∧ Hid (RChn w wo wx F (s.of key) b))
            case first =>
              go_region_held3 (fun w' => w'.cell? ⟨w.heap.size, 0, none⟩ = some (.slice A s.kc.length c) ∧ w'.cell? ⟨w.heap.size, 1, none⟩ = some (.slice B s.kc.length d) ∧ w'.cell? ⟨w.heap.size, 2, none⟩ = some (.int .i64 s.now) ∧
                  w'.cell? ⟨bo, 0, none⟩ = some (.slice (some adk) K.length c5) ∧ w'.cell? (adk.add q) = some (.string key))
                (first
                  | exact ⟨a0, a1, a2, n0, x0⟩
                  | exact ⟨cell_alloc a0 _, cell_alloc a1 _, cell_alloc a2 _, cell_alloc n0 _, cell_alloc x0 _⟩
                  | exact ⟨q0, q1, q2, q3, q4⟩
                  | exact ⟨cell_set2 q0 (World.block_lt_of_cell? wo _ a0) _ _, cell_set2 q1 (World.block_lt_of_cell? wo _ a1) _ _, cell_set2 q2 (World.block_lt_of_cell? wo _ a2) _ _, cell_set2 q3 (World.block_lt_of_cell? wo _ n0) _ _, cell_set2 q4 (World.block_lt_of_cell? wo _ x0) _ _⟩
                  | exact ⟨cell_alloc q0 _, cell_alloc q1 _, cell_alloc q2 _, cell_alloc q3 _, cell_alloc q4 _⟩)
                (first
                  | (go_at_call 61; refine (HX.out.2.1 _ (by repeat (first | exact Fr.refl _ _ | apply Fr.alloc | apply Fr.drew | apply Fr.drewN))).mono ?_; rintro e6 w6 ⟨u6, rfl, ⟨A6, c6, rfl, hc6, hr6⟩, hf6⟩
                     have hg6 : Fr No wo w6 := Fr.trans (by repeat (first | exact Fr.refl _ _ | apply Fr.alloc | apply Fr.drew | apply Fr.drewN)) (hf6.mono fun _ _ f => f.elim)
                     have q0 := hg6.cell a0 (fun f => f)
                     have q1 := hg6.cell a1 (fun f => f)
                     have q2 := hg6.cell a2 (fun f => f)
                     have q3 := hg6.cell n0 (fun f => f)
                     have q4 := hg6.cell x0 (fun f => f)
                     first
                       | (have bN : w6.heap[wo.heap.size]? = some (.cells #[.slice none 0 0, .int .i64 0] 119 (0, 0)) := hf6.blk (heap_alloc_new _ _) (fun f => f)
                          have m0 := blk_cell bN 0
                          have m1 := blk_cell bN 1
                          have y0 := blk_frozen bN 0
                          have y1 := blk_frozen bN 1
                          simp at m0 m1)
                       | skip
                     have H6 := Lib.hid (And.intro hf6 (And.intro hc6 hr6))
                     clear hf6 hc6 hr6 hg6))
              all_goals go_wp2_with fail
              all_goals go_meet
              all_goals first
                | exact ⟨_, rfl, rchn_behind (by repeat (first | exact Fr.refl _ _ | apply Fr.alloc | apply Fr.drew | apply Fr.drewN)) H6.out.1 H6.out.2.1 H6.out.2.2⟩
                | (refine ⟨_, rfl, rchn_before (w0 := wo.drew.alloc (.cells #[.slice none 0 0, .int .i64 0] 119)) ?_ ?_ ?_ H6.out.1 H6.out.2.1 H6.out.2.2⟩
                   · exact Nat.le_trans (Nat.le_add_right _ 3) HBx.out.size
                   · repeat (first | exact Fr.refl _ _ | apply Fr.alloc | apply Fr.drew | apply Fr.drewN)
                   · exact heap_alloc_new wo _)
            case rest =>
              obtain ⟨b, rfl, HC⟩ := hcut
              go_wp2_with fail
              go_loopw [11] (fun i wi => ∃ (p : Nat), p ≤ ws.length ∧ i = .int .i64 p ∧ Hid (RChn w wo wi F (upd (s.now + 1) (ws.take p) key (s.of key)) b)) (fun i _ => ws.length - (intOf i).toNat)
              case atStart => exact ⟨0, Nat.zero_le _, rfl, HC.out⟩
              case round =>
                obtain ⟨wi, hwi⟩ : ∃ wi, wi = wr := ⟨_, rfl⟩
                subst hwi
                obtain ⟨p, hp, rfl, HI⟩ := hrel
                obtain ⟨hlb2, hfi, A7, c7, hb7, hc7, hr7⟩ := HI.out
                have hBi := HBx.out.fr0 hfi
                have a3 := blk_cell hBi.b1 0
                have a4 := blk_cell hBi.b1 1
                have hbi := hfi.blk I.out.blk (fun f => f)
                have n0 := blk_cell hbi 0
                have n1 := blk_cell hbi 1
                have zn := blk_frozen hbi 1
                have x0 := hfi.cell x0 (fun f => f)
                have g0 := blk_cell hb7 0
                have g1 := blk_cell hb7 1
                simp at a3 a4 n0 n1 g0 g1
                have hp0 : (0 : Int) ≤ (p : Int) := Int.natCast_nonneg _
                have hl64 : (ws.length : Int) ≤ 64 := by have := H.out.2.2.2.2.2.2.2; omega
                by_cases hlt2 : p < ws.length
                · have hp1 : (p : Int) < (ws.length : Int) := by omega
                  obtain ⟨ad, A', c', rfl, y0, y1, y2, hcw, hrw⟩ := wr_at (H.out.2.2.2.2.2.1.fr0 hBi.fr) hlt2
                  have hnd := (allFit_rising H.out.2.2.2.2.2.2.1).1.nodup
                  have hmem := allFit_mem H.out.2.2.2.2.2.2.1 ws[p] (List.getElem_mem hlt2)
                  have hne : ws[p].key ≠ key → upd (s.now + 1) (ws.take (p + 1)) key (s.of key) = upd (s.now + 1) (ws.take p) key (s.of key) := fun hne => by
                    rw [List.take_succ_eq_append_getElem hlt2, upd_snoc_ne hne]
                  have hnot : ws[p].key ∉ (ws.take p).map Wr.key := by
                    have := nodup_not_take hnd (i := p) (by simpa using hlt2)
                    rwa [List.getElem_map, ← List.map_take] at this
                  have heq : ws[p].key = key → upd (s.now + 1) (ws.take p) key (s.of key) = s.of key ∧ upd (s.now + 1) (ws.take (p + 1)) key (s.of key) = (s.of key).put (s.now + 1) ws[p].row ws[p].gone := fun he => by
                    subst he
                    exact ⟨upd_none hnot, by rw [List.take_succ_eq_append_getElem hlt2, upd_snoc_eq hnot]⟩
                  obtain ⟨ch, hch⟩ : ∃ ch, upd (s.now + 1) (ws.take p) key (s.of key) = ch := ⟨_, rfl⟩
                  obtain ⟨ch2, hch2⟩ : ∃ ch2, upd (s.now + 1) (ws.take (p + 1)) key (s.of key) = ch2 := ⟨_, rfl⟩
                  rw [hch] at HI hb7 hc7 hr7 g0 g1 hne heq
                  rw [hch2] at hne heq
                  have HY := Lib.hid (And.intro hne (And.intro heq (And.intro hcw (And.intro hrw (And.intro hmem.2.2.1 hch2)))))
                  clear hne heq hcw hrw hmem hch hch2 hnot hnd hbi
                  obtain ⟨ky, row, gone, hxe⟩ : ∃ ky row gone, ws[p] = ⟨ky, row, gone⟩ := ⟨_, _, _, rfl⟩
                  rw [hxe] at HY
                  simp only [hxe] at y0 y1 y2
                  clear hxe
                  obtain ⟨W, hW⟩ : ∃ W, W = wi.alloc (.cells #[.string ky, .slice A' row.length c', .bool gone] 43) := ⟨_, rfl⟩
                  have hfW : Fr No wi W := by rw [hW]; exact (Fr.refl No wi).alloc _
                  have hbW : W.heap[wi.heap.size]? = some (.cells #[.string ky, .slice A' row.length c', .bool gone] 43 (0, 0)) := by rw [hW]; exact heap_alloc_new wi _
                  have t0 := blk_cell hbW 0
                  have t1 := blk_cell hbW 1
                  have t2 := blk_cell hbW 2
                  simp at t0 t1 t2
                  have n0W := hfW.cell n0 (fun f => f)
                  have x0W := hfW.cell x0 (fun f => f)
                  have a3W := hfW.cell a3 (fun f => f)
                  have g0W := hfW.cell g0 (fun f => f)
                  have g1W := hfW.cell g1 (fun f => f)
                  have HW := Lib.hid (And.intro hfW (And.intro hb7 (And.intro hc7 (And.intro hr7 (And.intro hlb2 (And.intro hfi hBi))))))
                  clear hfW hbW hb7 hc7 hr7 hfi hBi
                  cases hb : (ky.toList == key.toList)
                  · go_wp2_with fail
                    rw [← hW]
                    clear hW
                    go_quiet (fail)
                    go_wp2
                    go_roundw
                    case rel =>
                      refine ⟨p + 1, by omega, by go_num, ?_⟩
                      show RChn w wo _ F (upd (s.now + 1) (ws.take (p + 1)) key (s.of key)) b
                      rw [HY.out.2.2.2.2.2, HY.out.1 (by rw [beq_toList] at hb; simpa using hb)]
                      exact HI.out.fr0 (HW.out.1.drewN _)
                    case measure => simp [intOf]; omega
                  · have hk : ky = key := by rw [beq_toList] at hb; simpa using hb
                    have he := HY.out.2.1 hk
                    have hput := fun w' (f : Fr No W w') => ref_cput (w := w') (c := ch) (cp := c7) (cr := c') (s.now + 1) gone ((HW.out.2.2.2.1.fr0 HW.out.1).fr0 f) (by rw [he.1]; have := HX.out.2.2.1.2.1; omega) ((HY.out.2.2.2.1.fr0 HW.out.1).fr0 f) (by have h4 : row.length ≤ 4000 := HY.out.2.2.2.2.1; show row.length ≤ 1000000000; omega) (by rw [he.1]; have := HX.out.2.2.2; omega)
                    rw [show ch.put (s.now + 1) row gone = ch2 by rw [he.2, he.1]] at hput
                    have HP := Lib.hid (And.intro hput hk)
                    clear hput he hk
                    go_wp2_with fail
                    rw [← hW]
                    clear hW
                    go_quiet (fail)
                    go_wp2_with (go_at_call 62; refine (HP.out.1 _ (by repeat (first | exact Fr.refl _ _ | apply Fr.alloc | apply Fr.drew | apply Fr.drewN))).mono ?_; rintro e8 w8 ⟨u8, rfl, ⟨A8, c8, rfl, hc8, hr8⟩, hf8⟩
                                 have hb8 := hf8.blk (HW.out.1.blk HW.out.2.1 (fun f => f)) (fun f => f)
                                 have k0 := blk_cell hb8 0
                                 have k1 := blk_cell hb8 1
                                 have z0 := blk_frozen hb8 0
                                 have z1 := blk_frozen hb8 1
                                 simp at k0 k1
                                 have H8 := Lib.hid (And.intro hc8 (And.intro hr8 hf8))
                                 clear hc8 hr8 hf8 hb8)
                    go_roundw
                    case rel =>
                      refine ⟨p + 1, by omega, by go_num, ?_⟩
                      show RChn w wo _ F (upd (s.now + 1) (ws.take (p + 1)) key (s.of key)) b
                      rw [HY.out.2.2.2.2.2]
                      have hbl : b < W.heap.size := blk_lt (HW.out.1.blk HW.out.2.1 (fun f => f))
                      have hwi : wo.heap.size ≤ W.heap.size := Nat.le_trans HW.out.2.2.2.2.2.1.size HW.out.1.size
                      exact HI.out.put ((HW.out.1.drewN _).trans (H8.out.2.2.mono fun _ _ f => f.elim)) H8.out.1 H8.out.2.1 (fun i hi => by
                        rcases hi with hi | hi
                        · exact hi
                        · have hi' : W.heap.size ≤ i := hi
                          exact .inr ⟨by omega, by omega⟩) (Nat.le_trans (Nat.le_add_right _ 3) HBx.out.size)
                    case measure => simp [intOf]; omega
                · obtain rfl : p = ws.length := by omega
                  rw [List.take_length] at HI hb7 hc7 hr7 g0 g1
                  obtain ⟨x, hx⟩ : ∃ x, upd (s.now + 1) ws key (s.of key) = x := ⟨_, rfl⟩
                  rw [hx] at HI hb7 hc7 hr7 g0 g1
                  have htk := HX.out.1
                  rw [hx] at htk
                  have HT := Lib.hid (And.intro htk (And.intro hc7 (And.intro hr7 (And.intro hfi hlb2))))
                  have hqi : ((q : Int) + 1) * 32 ≤ 140737488355328 := by omega
                  clear htk hx hc7 hr7 hfi hBi hb7 hbi
                  go_wp2_with (at_builtin; refine ow_append tChn (ys := [x]) ((I.out.own.fr0 HT.out.2.2.2.1).fr0 ((Fr.refl No _).alloc _)) _ _ (.agg #[.slice none 0 0, .int .i64 0]) 32 rfl rfl Try.underlying53 info_rchn rfl (by decide) (by decide) rfl rfl rfl (Row.single (tChn_mk (l := x.l) (n := x.last) (A := A7) (c := c7) HT.out.2.1 ((HT.out.2.2.1.fr0 ((Fr.refl No _).alloc _)).mono fun i hi hl => ?qf))) (At.block (heap_alloc_new _ _)) ?ql ?_
                               case qf =>
                                 have h1 := HK.out.2.1.size
                                 have h2 := I.out.fr.size
                                 refine ⟨?_, fun he => ?_⟩
                                 · rcases hi with hi | hi
                                   · exact .inl hi
                                   · exact .inr (by omega)
                                 · have h3 := I.out.box i he
                                   have h4 := (I.out.own.own he).2
                                   rcases hi with hi | hi
                                   · have := hi.2; omega
                                   · have := hi.1; omega
                               case ql => rw [HLk.out]; simp; omega
                               intro A3n c3n w3 hown3 hg3 hat3
                               have hlen3 : ((K.take q).map fun k => upd (s.now + 1) ws k (s.of k)).length + [x].length = q + 1 := by rw [HLk.out]; rfl
                               rw [hlen3] at hown3 hat3 ⊢
                               have hnx := rapp_next hbc hbw I.out HI.out hown3 hg3 hat3
                               have k3 := blk_cell hnx.1 1
                               have z3 := blk_frozen hnx.1 1
                               simp at k3
                               have H3 := Lib.hid hnx
                               clear hnx hown3 hg3 hat3 hlen3)
                  go_roundw
                  case rel => exact ⟨q + 1, .slice A3n (q + 1) c3n, by go_num, ⟨by omega, H3.out.2.1, by rw [HT.out.1]; exact H3.out.2.2.1, H3.out.2.2.2.1, H3.out.2.2.2.2⟩⟩
                  case measure => simp [intOf]; omega
          · obtain rfl : q = K.length := by have := I.out.le; omega
            have b2 := blk_cell HBx.out.b2 0
            have b21 := blk_cell HBx.out.b2 1
            have b22 := blk_cell HBx.out.b2 2
            have z0 := blk_frozen HBx.out.b2 0
            have z1 := blk_frozen HBx.out.b2 1
            have z2 := blk_frozen HBx.out.b2 2
            simp at b2 b21 b22
            have c0 := n0
            have hI := I.out.own.rd
            have hb4 := blk_set (blk_set (blk_set HBx.out.b2 0 (.slice A5 K.length c5)) 1 (.slice A2 K.length cv)) 2 (.int .i64 (s.now + 1))
            have d0 := blk_cell hb4 0
            have d1 := blk_cell hb4 1
            have d2 := blk_cell hb4 2
            simp at d0 d1 d2
            have hnF : ∀ i, (F i ∧ i < w.heap.size) ∨ wc.heap.size ≤ i → i ≠ w.heap.size + 2 := fun i hi => by rcases hi with hi | hi; have := hi.2; omega; omega
            have hwr : w.heap.size + 2 < wr.heap.size := by have := hB.out.size; omega
            have hkeys := (((HK.out.2.2.2.2.fr I.out.fr fun i hi e => hi.1.2 e).set2 ⟨w.heap.size + 2, 0, none⟩ (fun hi => by have := hi.1.1; simp at this; omega) (.slice A5 K.length c5)).set2 ⟨w.heap.size + 2, 1, none⟩ (fun hi => by have := hi.1.1; simp at this; omega) (.slice A2 K.length cv)).set2 ⟨w.heap.size + 2, 2, none⟩ (fun hi => by have := hi.1.1; simp at this; omega) (.int .i64 (s.now + 1))
            have hchs := ((hI.2.2.set2 ⟨w.heap.size + 2, 0, none⟩ (fun hi => hnF _ hi rfl) (.slice A5 K.length c5)).set2 ⟨w.heap.size + 2, 1, none⟩ (fun hi => hnF _ hi rfl) (.slice A2 K.length cv)).set2 ⟨w.heap.size + 2, 2, none⟩ (fun hi => hnF _ hi rfl) (.int .i64 (s.now + 1))
            have hfr : Fr No w (((wo.setCell ⟨w.heap.size + 2, 0, none⟩ (.slice A5 K.length c5)).setCell ⟨w.heap.size + 2, 1, none⟩ (.slice A2 K.length cv)).setCell ⟨w.heap.size + 2, 2, none⟩ (.int .i64 (s.now + 1))) :=
              ((HBx.out.fr.set _ (.inr (by simp)) _).set _ (.inr (by simp)) _).set _ (.inr (by simp)) _
            have HE := Lib.hid (And.intro hkeys (And.intro hchs (And.intro hfr (And.intro hI.2.1 (And.intro d0 (And.intro d1 d2))))))
            clear hkeys hchs hfr hI d0 d1 d2 hb4 hnF
            go_wp2
            obtain ⟨hkeys, hchs, hfr, hc2, d0, d1, d2⟩ := HE.out
            have hkc := apply_keys (n := s.now + 1) H.out.2.2.2.2.1.rising (allFit_rising H.out.2.2.2.2.2.2.1).1.nodup
            rw [HK.out.1] at hkc
            have hf1 : (K.map fun k => (k, upd (s.now + 1) ws k (s.of k))).map Prod.fst = K := by rw [List.map_map]; exact List.map_id K
            have hf2 : (K.map fun k => (k, upd (s.now + 1) ws k (s.of k))).map Prod.snd = K.map fun k => upd (s.now + 1) ws k (s.of k) := by rw [List.map_map]; rfl
            refine bodyPost_ret (v := .tuple #[.agg #[.slice A5 K.length c5, .slice A2 K.length cv, .int .i64 (s.now + 1)], .int .i64 0]) (by simp [results, Try.results39, go_sem, d0, d1, d2]) rfl ⟨_, rfl, ⟨A5, c5, A2, cv, ?_, ?_, ?_, ?_, ?_⟩, hfr⟩
            · rw [hkc, List.length_map]
            · rw [hkc, List.length_map]; exact HK.out.2.2.2.1
            · rw [hkc, List.length_map]; exact hc2
            · rw [hkc, hf1]
              exact hkeys.mono fun i hi _ => .inr (by have := hi.1.1; omega)
            · rw [hkc, hf2]
              rw [List.take_length] at hchs
              exact hchs.mono fun i hi _ => by rcases hi with hi | hi; exact .inl hi.1; exact .inr (by omega)
end Go.Proofs.Ytkcppngopdiljaa
/- Reference 13 (store): Apply in every case. -/
set_option linter.unusedVariables false
set_option linter.unusedSimpArgs false
namespace Go.Proofs.Ytkcppngopdiljaa
open Go.RowKit

/-- The store as it was, laid into the result's box. -/
theorem rbox_same {w wr : World} {A B D : Option Addr} {c d e : Nat} {s : Sto} {n : Int} {ws : List Wr} {F : Nat → Prop} (hB : RBox w wr A B D c d e s n ws) (h1 : s.kc.length ≤ c) (h2 : s.kc.length ≤ d) (h3 : Rd Ty.str w F A (s.kc.map Prod.fst)) (h4 : Rd tChn w F B (s.kc.map Prod.snd)) :
    let w' := ((wr.setCell ⟨w.heap.size + 2, 0, none⟩ (.slice A s.kc.length c)).setCell ⟨w.heap.size + 2, 1, none⟩ (.slice B s.kc.length d)).setCell ⟨w.heap.size + 2, 2, none⟩ (.int .i64 s.now)
    w'.cell? ⟨w.heap.size + 2, 0, none⟩ = some (.slice A s.kc.length c) ∧ w'.cell? ⟨w.heap.size + 2, 1, none⟩ = some (.slice B s.kc.length d) ∧ w'.cell? ⟨w.heap.size + 2, 2, none⟩ = some (.int .i64 s.now) ∧
      StoVal w' (fun i => F i ∨ w.heap.size ≤ i) (.agg #[.slice A s.kc.length c, .slice B s.kc.length d, .int .i64 s.now]) s ∧ Fr No w w' := by
  have hb4 := blk_set (blk_set (blk_set hB.b2 0 (.slice A s.kc.length c)) 1 (.slice B s.kc.length d)) 2 (.int .i64 s.now)
  have d0 := blk_cell hb4 0
  have d1 := blk_cell hb4 1
  have d2 := blk_cell hb4 2
  simp at d0 d1 d2
  have hfr : Fr No w (((wr.setCell ⟨w.heap.size + 2, 0, none⟩ (.slice A s.kc.length c)).setCell ⟨w.heap.size + 2, 1, none⟩ (.slice B s.kc.length d)).setCell ⟨w.heap.size + 2, 2, none⟩ (.int .i64 s.now)) := ((hB.fr.set _ (.inr (by simp)) _).set _ (.inr (by simp)) _).set _ (.inr (by simp)) _
  exact ⟨d0, d1, d2, ⟨A, c, B, d, rfl, h1, h2, (h3.fr0 hfr).mono fun i hi _ => .inl hi, (h4.fr0 hfr).mono fun i hi _ => .inl hi⟩, hfr⟩

set_option maxHeartbeats 1000000 in
set_option maxRecDepth 100000 in
theorem ref_apply {w : World} {F R : Nat → Prop} {v : Value} {s : Sto} {m : Nat} {D : Option Addr} {e : Nat} {ws : List Wr} (n : Int) (h : StoVal w F v s) (hs : s.Fine m) (hm : m ≤ 100000000) (hR : Rd tWr w R D ws) (hl : ws.length ≤ 1000000000) (hk : ∀ x ∈ ws, x.key.size ≤ 9223372036854775807) :
    Calls Try.prog 39 #[v, .agg #[.int .i64 n, .slice D ws.length e]] w fun e w' => ∃ u, e = .returned (.tuple #[u, .int .i64 (s.apply n ws).2]) ∧ StoVal w' (fun i => F i ∨ w.heap.size ≤ i) u (s.apply n ws).1 ∧ Fr No w w' := by
  cases hok : right n ws with
  | false =>
    have hap : s.apply n ws = (s, 2) := by unfold Sto.apply; rw [hok]; exact if_pos rfl
    rw [hap]
    obtain ⟨A, c, B, d, rfl, h1, h2, h3, h4⟩ := h
    have hright := fun w' (f : Fr No w w') => ref_right (w := w') n D e ws (hR.fr0 f) hl hk
    rw [hok] at hright
    obtain ⟨W, hW⟩ : ∃ W, W = ((w.alloc (.cells #[.slice A s.kc.length c, .slice B s.kc.length d, .int .i64 s.now] 55)).alloc (.cells #[.int .i64 n, .slice D ws.length e] 40)).alloc (.cells #[.slice none 0 0, .slice none 0 0, .int .i64 0] 55) := ⟨_, rfl⟩
    have hB : RBox w W A B D c d e s n ws := ⟨by rw [hW]; exact blk_three1 .., by rw [hW]; exact blk_three2 .., by rw [hW]; exact blk_three3 .., by rw [hW]; exact (((Fr.refl No w).alloc _).alloc _).alloc _⟩
    have H := Lib.hid (And.intro h1 (And.intro h2 (And.intro h3 (And.intro h4 (And.intro (hright W hB.fr) hB)))))
    clear h1 h2 h3 h4 hs hR hright hB hok hk hap
    go_enter Try.func39, Try.ntmps39
    go_wp2_with fail
    rw [← hW]
    clear hW
    refine H.out.2.2.2.2.1.mono ?_
    rintro e1 w1 ⟨rfl, hf1⟩
    have hB1 := H.out.2.2.2.2.2.fr0 hf1
    have a0 := blk_cell hB1.b0 0
    have a1 := blk_cell hB1.b0 1
    have a2 := blk_cell hB1.b0 2
    have b0 := blk_cell hB1.b2 0
    have b1 := blk_cell hB1.b2 1
    have b2 := blk_cell hB1.b2 2
    have z0 := blk_frozen hB1.b2 0
    have z1 := blk_frozen hB1.b2 1
    have z2 := blk_frozen hB1.b2 2
    simp at a0 a1 a2 b0 b1 b2
    have HE := Lib.hid (rbox_same hB1 H.out.1 H.out.2.1 H.out.2.2.1 H.out.2.2.2.1)
    clear hB1 hf1
    go_wp2
    obtain ⟨d0, d1, d2, hv, hfr⟩ := HE.out
    exact bodyPost_ret (v := .tuple #[.agg #[.slice A s.kc.length c, .slice B s.kc.length d, .int .i64 s.now], .int .i64 2]) (by simp [results, Try.results39, go_sem, d0, d1, d2]) rfl ⟨_, rfl, hv, hfr⟩
  | true =>
    by_cases hn : n = s.now + 1
    · subst hn
      have hap : s.apply (s.now + 1) ws = (⟨ws.foldl (Sto.put1 (s.now + 1)) s.kc, s.now + 1⟩, 0) := by unfold Sto.apply; rw [hok]; simp
      rw [hap]
      exact ref_apply_ok h hs hm hR hok
    · have hap : s.apply n ws = (s, 1) := by unfold Sto.apply; rw [hok]; simp [hn]
      rw [hap]
      have hn0 := hs.small.now0
      have hn1 : s.now ≤ 100000000 := by have := hs.small.now1; omega
      obtain ⟨A, c, B, d, rfl, h1, h2, h3, h4⟩ := h
      have hright := fun w' (f : Fr No w w') => ref_right (w := w') n D e ws (hR.fr0 f) hl hk
      rw [hok] at hright
      obtain ⟨W, hW⟩ : ∃ W, W = ((w.alloc (.cells #[.slice A s.kc.length c, .slice B s.kc.length d, .int .i64 s.now] 55)).alloc (.cells #[.int .i64 n, .slice D ws.length e] 40)).alloc (.cells #[.slice none 0 0, .slice none 0 0, .int .i64 0] 55) := ⟨_, rfl⟩
      have hB : RBox w W A B D c d e s n ws := ⟨by rw [hW]; exact blk_three1 .., by rw [hW]; exact blk_three2 .., by rw [hW]; exact blk_three3 .., by rw [hW]; exact (((Fr.refl No w).alloc _).alloc _).alloc _⟩
      have H := Lib.hid (And.intro h1 (And.intro h2 (And.intro h3 (And.intro h4 (And.intro (hright W hB.fr) hB)))))
      clear h1 h2 h3 h4 hs hR hright hB hok hk hap
      go_enter Try.func39, Try.ntmps39
      go_wp2_with fail
      rw [← hW]
      clear hW
      refine H.out.2.2.2.2.1.mono ?_
      rintro e1 w1 ⟨rfl, hf1⟩
      have hB1 := H.out.2.2.2.2.2.fr0 hf1
      have a0 := blk_cell hB1.b0 0
      have a1 := blk_cell hB1.b0 1
      have a2 := blk_cell hB1.b0 2
      have a3 := blk_cell hB1.b1 0
      have b0 := blk_cell hB1.b2 0
      have b1 := blk_cell hB1.b2 1
      have b2 := blk_cell hB1.b2 2
      have z0 := blk_frozen hB1.b2 0
      have z1 := blk_frozen hB1.b2 1
      have z2 := blk_frozen hB1.b2 2
      simp at a0 a1 a2 a3 b0 b1 b2
      have HE := Lib.hid (rbox_same hB1 H.out.1 H.out.2.1 H.out.2.2.1 H.out.2.2.2.1)
      clear hB1 hf1
      go_wp2
      obtain ⟨d0, d1, d2, hv, hfr⟩ := HE.out
      exact bodyPost_ret (v := .tuple #[.agg #[.slice A s.kc.length c, .slice B s.kc.length d, .int .i64 s.now], .int .i64 1]) (by simp [results, Try.results39, go_sem, d0, d1, d2]) rfl ⟨_, rfl, hv, hfr⟩

/-- A store stays fine. -/
theorem Sto.Fine.mono {s : Sto} {m m' : Nat} (h : s.Fine m) (k : m ≤ m') : s.Fine m' := ⟨h.small.mono k, h.rising, h.oks⟩
theorem Sto.Fine.applied {s : Sto} {m : Nat} (h : s.Fine m) (n : Int) (ws : List Wr) : (s.apply n ws).1.Fine (m + 64) := by
  unfold Sto.apply
  cases hok : right n ws with
  | false => exact h.mono (by omega)
  | true =>
    by_cases hn : n = s.now + 1
    · subst hn
      rw [if_neg (by simp), if_pos rfl]
      have hfit : allFit ⟨#[]⟩ ws = true := by
        unfold right at hok
        simp only [Bool.and_eq_true] at hok
        exact hok.1
      exact ⟨h.small.applied h.rising hok, fold_rising h.rising ws, fold_oks h.rising h.oks (fun p hp => by have := (h.small.chains p hp).2.1; omega) (by have := h.small.now0; omega) (allFit_rising hfit).1.nodup⟩
    · rw [if_neg (by simp), if_neg hn]
      exact h.mono (by omega)
end Go.Proofs.Ytkcppngopdiljaa
/- Laws of layer 13 (store): stored: a store, and the document's, of batches. -/
set_option linter.unusedVariables false
set_option linter.unusedSimpArgs false
namespace Go.Proofs.Ytkcppngopdiljaa
open Go.RowKit

/-! ### What is stored -/
def stStep (s : Sto) (a : List Actn) : Sto := if a.length = 0 then s else (s.apply (s.now + 1) (batchW a)).1
def stAll (s : Sto) (ls : List (List Actn)) : Sto := ls.foldl stStep s
theorem stStep_fine {s : Sto} {m : Nat} (h : s.Fine m) (a : List Actn) : (stStep s a).Fine (m + 64) := by
  unfold stStep
  split
  · exact h.mono (by omega)
  · exact h.applied _ _
theorem stAll_fine {s : Sto} {m : Nat} (h : s.Fine m) (ls : List (List Actn)) : (stAll s ls).Fine (m + 64 * ls.length) := by
  unfold stAll
  induction ls generalizing s m with
  | nil => exact h
  | cons a ls ih => exact (ih (stStep_fine h a)).mono (by rw [List.length_cons]; omega)
theorem stAll_snoc (s : Sto) (ls : List (List Actn)) (a : List Actn) : stAll s (ls ++ [a]) = stStep (stAll s ls) a := by unfold stAll; rw [List.foldl_append]; rfl
theorem empty_fine : Sto.empty.Fine 0 := ⟨empty_small, List.Pairwise.nil, fun p hp => by cases hp⟩
theorem lotsB_all {α : Type} {ls : List (List α)} (h : lotsB ls = true) : ls.length ≤ 20 ∧ ∀ l ∈ ls, l.length ≤ 10 := by
  unfold lotsB at h
  rw [Bool.and_eq_true, List.all_eq_true] at h
  exact ⟨of_decide_eq_true h.2, fun l hl => of_decide_eq_true (h.1 l hl)⟩
/-- A batch by numbers is right, and is laid in. -/
theorem apply_batch {s : Sto} {m : Nat} (h : s.Fine m) {a : List Actn} (h0 : a.length ≠ 0) (hl : a.length ≤ 64) : (s.apply (s.now + 1) (batchW a)).2 = 0 := by
  have hr : right (s.now + 1) (batchW a) = true := batchW_right (by have := h.small.now0; omega) (by rintro rfl; exact h0 rfl) hl
  unfold Sto.apply
  rw [hr]
  simp

/-! ### The document's store in a box, a batch in a box -/
structure StoBox (w : World) (F : Nat → Prop) (b : Nat) (s : Sto) : Prop where
  box : ∃ A c B d, w.heap[b]? = some (.cells #[.slice A s.kc.length c, .slice B s.kc.length d, .int .i64 s.now] 55 (0, 0)) ∧ StoVal w F (.agg #[.slice A s.kc.length c, .slice B s.kc.length d, .int .i64 s.now]) s
theorem StoBox.fr {S F : Nat → Prop} {w w' : World} {b : Nat} {s : Sto} (h : StoBox w F b s) (f : Fr S w w') (hb : ¬ S b) (hd : ∀ k, F k → ¬ S k) : StoBox w' F b s := by
  obtain ⟨A, c, B, d, h1, h2⟩ := h.box
  exact ⟨A, c, B, d, f.blk h1 hb, h2.fr f hd⟩
theorem StoBox.fr0 {F : Nat → Prop} {w w' : World} {b : Nat} {s : Sto} (h : StoBox w F b s) (f : Fr No w w') : StoBox w' F b s := h.fr f (fun f => f) fun _ _ f => f
theorem StoBox.mono {F G : Nat → Prop} {w : World} {b : Nat} {s : Sto} (h : StoBox w F b s) (k : ∀ k, F k → k < w.heap.size → G k) : StoBox w G b s := by
  obtain ⟨A, c, B, d, h1, h2⟩ := h.box
  exact ⟨A, c, B, d, h1, h2.mono k⟩
/-- Another store is laid into the box. -/
theorem StoBox.put {F G : Nat → Prop} {w w2 : World} {b : Nat} {s s2 : Sto} {A B : Option Addr} {c d : Nat} (h : StoBox w F b s) (f : Fr No w w2) (hv : StoVal w2 G (.agg #[.slice A s2.kc.length c, .slice B s2.kc.length d, .int .i64 s2.now]) s2) (hG : ¬ G b) :
    StoBox (((w2.setCell ⟨b, 0, none⟩ (.slice A s2.kc.length c)).setCell ⟨b, 1, none⟩ (.slice B s2.kc.length d)).setCell ⟨b, 2, none⟩ (.int .i64 s2.now)) G b s2 := by
  obtain ⟨A0, c0, B0, d0, h1, h2⟩ := h.box
  have hb := blk_set (blk_set (blk_set (f.blk h1 (fun f => f)) 0 (.slice A s2.kc.length c)) 1 (.slice B s2.kc.length d)) 2 (.int .i64 s2.now)
  have hfr : Fr (fun i => i = b) w2 (((w2.setCell ⟨b, 0, none⟩ (.slice A s2.kc.length c)).setCell ⟨b, 1, none⟩ (.slice B s2.kc.length d)).setCell ⟨b, 2, none⟩ (.int .i64 s2.now)) :=
    (((Fr.refl (fun i => i = b) w2).set ⟨b, 0, none⟩ (.inl rfl) _).set ⟨b, 1, none⟩ (.inl rfl) _).set ⟨b, 2, none⟩ (.inl rfl) _
  exact ⟨A, c, B, d, by simpa using hb, hv.fr hfr fun k hk e => hG (by rw [← e]; exact hk)⟩

structure BatBox (wr wx : World) (b : Nat) (n : Int) (ws : List Wr) : Prop where
  lt : wr.heap.size ≤ b
  fr : Fr No wr wx
  box : ∃ A' c', wx.heap[b]? = some (.cells #[.int .i64 n, .slice A' ws.length c'] 40 (0, 0)) ∧ ws.length ≤ c' ∧ Rd tWr wx (fun i => wr.heap.size ≤ i ∧ i ≠ b) A' ws
theorem bat_before {wr w0 w6 : World} {n : Int} {ws : List Wr} {A' : Option Addr} {c' : Nat} (hw0 : Fr No wr w0) (hs0 : wr.heap.size + 1 ≤ w0.heap.size) (hb : w0.heap[wr.heap.size]? = some (.cells #[.int .i64 0, .slice none 0 0] 40 (0, 0)))
    (hf : Fr No w0 w6) (hc : ws.length ≤ c') (hr : Rd tWr w6 (fun i => w0.heap.size ≤ i) A' ws) :
    BatBox wr ((w6.setCell ⟨wr.heap.size, 0, none⟩ (.int .i64 n)).setCell ⟨wr.heap.size, 1, none⟩ (.slice A' ws.length c')) wr.heap.size n ws := by
  have h6 : Fr No wr w6 := hw0.trans (hf.mono fun _ _ f => f.elim)
  have hb6 := blk_set (blk_set (hf.blk hb (fun f => f)) 0 (.int .i64 n)) 1 (.slice A' ws.length c')
  have hn : ¬ (w0.heap.size ≤ wr.heap.size) := by omega
  exact ⟨Nat.le_refl _, (h6.set ⟨wr.heap.size, 0, none⟩ (.inr (Nat.le_refl _)) _).set ⟨wr.heap.size, 1, none⟩ (.inr (Nat.le_refl _)) _, A', c', by simpa using hb6, hc, ((hr.set2 ⟨wr.heap.size, 0, none⟩ hn _).set2 ⟨wr.heap.size, 1, none⟩ hn _).mono fun i hi _ => by have hi' : w0.heap.size ≤ i := hi; exact ⟨by omega, by omega⟩⟩
theorem bat_behind {wr w0 w6 : World} {n : Int} {ws : List Wr} {A' : Option Addr} {c' : Nat} (hw0 : Fr No wr w0)
    (hf : Fr No w0 w6) (hc : ws.length ≤ c') (hr : Rd tWr w6 (fun i => w0.heap.size ≤ i) A' ws) :
    BatBox wr (w6.alloc (.cells #[.int .i64 n, .slice A' ws.length c'] 40)) w6.heap.size n ws := by
  have h6 : Fr No wr w6 := hw0.trans (hf.mono fun _ _ f => f.elim)
  have hs := hw0.size
  exact ⟨h6.size, h6.alloc _, A', c', heap_alloc_new w6 _, hc, ((hr.mono fun i hi hl => (⟨hi, hl⟩ : w0.heap.size ≤ i ∧ i < w6.heap.size)).fr0 ((Fr.refl No w6).alloc _)).mono fun i hi _ => by have := hi.1; have := hi.2; exact ⟨by omega, by omega⟩⟩

/-! ### A store and the document's, side by side -/
/-- The store's blocks are its own: none of the document's, none of R's. -/
structure Mid (w wr : World) (sb bx : Nat) (s t : Sto) (R : Nat → Prop) : Prop where
  sets : ∃ FS FM : Nat → Prop, StoreAt wr FS sb s ∧ StoBox wr FM bx t ∧ (∀ i, FS i → w.heap.size ≤ i ∧ ¬ FM i ∧ i ≠ bx ∧ ¬ R i ∧ i < wr.heap.size) ∧ ∀ i, FM i → (i ≠ bx ∧ i < wr.heap.size) ∧ w.heap.size ≤ i
  fr : Fr No w wr
  low : w.heap.size ≤ bx
section
variable {w wr : World} {sb bx m : Nat} {s t : Sto} {R : Nat → Prop}
theorem Mid.fr0 {w' : World} (h : Mid w wr sb bx s t R) (f : Fr No wr w') : Mid w w' sb bx s t R := by
  obtain ⟨⟨FS, FM, h1, h2, h3, h4⟩, h5, h6⟩ := h
  have := f.size
  exact ⟨⟨FS, FM, h1.fr0 f, h2.fr0 f, fun i hi => by have := h3 i hi; exact ⟨this.1, this.2.1, this.2.2.1, this.2.2.2.1, by omega⟩, fun i hi => by have := h4 i hi; exact ⟨⟨this.1.1, by omega⟩, this.2⟩⟩, h5.trans (f.mono fun _ _ f => f.elim), h6⟩
theorem Mid.mono {R' : Nat → Prop} (h : Mid w wr sb bx s t R) (k : ∀ i, R' i → R i) : Mid w wr sb bx s t R' := by
  obtain ⟨⟨FS, FM, h1, h2, h3, h4⟩, h5, h6⟩ := h
  exact ⟨⟨FS, FM, h1, h2, fun i hi => by have := h3 i hi; exact ⟨this.1, this.2.1, this.2.2.1, fun h => this.2.2.2.1 (k i h), this.2.2.2.2⟩, h4⟩, h5, h6⟩
/-- What is made behind the store is none of its. -/
theorem Mid.add {w' : World} (h : Mid w wr sb bx s t R) (f : Fr No wr w') : Mid w w' sb bx s t (fun i => R i ∨ wr.heap.size ≤ i) := by
  obtain ⟨⟨FS, FM, h1, h2, h3, h4⟩, h5, h6⟩ := h
  have := f.size
  exact ⟨⟨FS, FM, h1.fr0 f, h2.fr0 f, fun i hi => by have := h3 i hi; exact ⟨this.1, this.2.1, this.2.2.1, fun h => h.elim this.2.2.2.1 (fun h => by omega), by omega⟩, fun i hi => by have := h4 i hi; exact ⟨⟨this.1.1, by omega⟩, this.2⟩⟩, h5.trans (f.mono fun _ _ f => f.elim), h6⟩
theorem Mid.blk (h : Mid w wr sb bx s t R) : ∃ A c B d, wr.heap[bx]? = some (.cells #[.slice A t.kc.length c, .slice B t.kc.length d, .int .i64 t.now] 55 (0, 0)) ∧ ∃ FM, StoVal wr FM (.agg #[.slice A t.kc.length c, .slice B t.kc.length d, .int .i64 t.now]) t := by
  obtain ⟨⟨FS, FM, h1, h2, h3, h4⟩, h5, h6⟩ := h
  obtain ⟨A, c, B, d, h8, h7⟩ := h2.box
  exact ⟨A, c, B, d, h8, FM, h7⟩
theorem Mid.store (h : Mid w wr sb bx s t R) : ∃ FS, StoreAt wr FS sb s := by
  obtain ⟨⟨FS, FM, h1, h2, h3, h4⟩, h5, h6⟩ := h
  exact ⟨FS, h1⟩
/-- The store's Apply. -/
theorem Mid.apply {A' : Option Addr} {c' : Nat} {ws : List Wr} (n : Int) (h : Mid w wr sb bx s t R) (hRl : ∀ i, R i → i < wr.heap.size) (hs : s.Small m) (hm : m ≤ 100000000) (hb : Rd tWr wr R A' ws) (hl : ws.length ≤ 1000000000) (hk : ∀ x ∈ ws, x.key.size ≤ 9223372036854775807) :
    Calls Try.prog 38 #[.pointer (some ⟨sb, 0, none⟩), .agg #[.int .i64 n, .slice A' ws.length c']] wr fun e w2 =>
      e = .returned (.int .i64 (s.apply n ws).2) ∧ Mid w w2 sb bx (s.apply n ws).1 t R ∧ ∃ S, Fr S wr w2 ∧ ∀ i, R i → ¬ S i := by
  obtain ⟨⟨FS, FM, h1, h2, h3, h4⟩, h5, h6⟩ := h
  refine (store_apply (c := c') n h1 hs hm hb (fun i hi hf => (h3 i hf).2.2.2.1 hi) hl hk).mono ?_
  rintro e w2 ⟨rfl, hs2, hf2⟩
  have hz := hf2.size
  have hw := h5.size
  have hbx : bx < wr.heap.size := by obtain ⟨_, _, _, _, h6, _⟩ := h2.box; exact blk_lt h6
  refine ⟨rfl, ⟨⟨fun i => (FS i ∨ wr.heap.size ≤ i) ∧ i < w2.heap.size, FM, hs2.mono fun i hi hl => ⟨hi, hl⟩, h2.fr hf2 (fun h => (h3 _ h).2.2.1 rfl) (fun k hk hf => (h3 k hf).2.1 hk), fun i hi => ?_, fun i hi => by have := h4 i hi; exact ⟨⟨this.1.1, by omega⟩, this.2⟩⟩, h5.trans (hf2.mono fun i _ hi => .inr (h3 i hi).1), h6⟩, FS, hf2, fun i hi hf => (h3 i hf).2.2.2.1 hi⟩
  obtain ⟨hi | hi, hlt⟩ := hi
  · have := h3 i hi
    exact ⟨this.1, this.2.1, this.2.2.1, this.2.2.2.1, hlt⟩
  · exact ⟨by omega, fun h => by have := (h4 i h).1.2; omega, by omega, fun h => by have := hRl i h; omega, hlt⟩
/-- A store of the document's that has just come, as a value: it may be laid into the box, or into a new one. -/
structure Come (w w3 : World) (sb bx : Nat) (s t1 : Sto) (R : Nat → Prop) (A : Option Addr) (c : Nat) (B : Option Addr) (d : Nat) : Prop where
  laid : ∀ w4, Fr No w3 w4 → Mid w (((w4.setCell ⟨bx, 0, none⟩ (.slice A t1.kc.length c)).setCell ⟨bx, 1, none⟩ (.slice B t1.kc.length d)).setCell ⟨bx, 2, none⟩ (.int .i64 t1.now)) sb bx s t1 R
  made : ∀ w4 b, Fr No w3 w4 → w3.heap.size ≤ b → w4.heap[b]? = some (.cells #[.slice A t1.kc.length c, .slice B t1.kc.length d, .int .i64 t1.now] 55 (0, 0)) → Mid w w4 sb b s t1 R
theorem Mid.come {w3 : World} {FM : Nat → Prop} {t1 : Sto} {u : Value} (h : ∃ FS : Nat → Prop, StoreAt wr FS sb s ∧ StoBox wr FM bx t ∧ (∀ i, FS i → w.heap.size ≤ i ∧ ¬ FM i ∧ i ≠ bx ∧ ¬ R i ∧ i < wr.heap.size) ∧ ∀ i, FM i → (i ≠ bx ∧ i < wr.heap.size) ∧ w.heap.size ≤ i) (h5 : Fr No w wr) (h6 : w.heap.size ≤ bx) (f : Fr No wr w3) (hv : StoVal w3 (fun i => FM i ∨ wr.heap.size ≤ i) u t1) :
    ∃ A c B d, u = .agg #[.slice A t1.kc.length c, .slice B t1.kc.length d, .int .i64 t1.now] ∧ Come w w3 sb bx s t1 R A c B d := by
  obtain ⟨FS, h1, h2, h3, h4⟩ := h
  have hv0 := hv
  obtain ⟨A, c, B, d, rfl, _⟩ := hv
  have hz := f.size
  have hw := h5.size
  have hbx : bx < wr.heap.size := by obtain ⟨_, _, _, _, h6, _⟩ := h2.box; exact blk_lt h6
  have hG : ∀ i, (FM i ∨ wr.heap.size ≤ i) ∧ i < w3.heap.size → (i ≠ bx ∧ i < w3.heap.size) ∧ w.heap.size ≤ i := fun i hi => ⟨⟨by rcases hi.1 with h | h; exact (h4 i h).1.1; omega, hi.2⟩, by rcases hi.1 with h | h; exact (h4 i h).2; omega⟩
  refine ⟨A, c, B, d, rfl, ⟨fun w4 f4 => ?_, fun w4 b f4 hb hblk => ?_⟩⟩
  · have f34 : Fr No wr w4 := f.trans (f4.mono fun _ _ f => f.elim)
    have hfr : Fr (fun i => i = bx) w4 (((w4.setCell ⟨bx, 0, none⟩ (.slice A t1.kc.length c)).setCell ⟨bx, 1, none⟩ (.slice B t1.kc.length d)).setCell ⟨bx, 2, none⟩ (.int .i64 t1.now)) :=
      (((Fr.refl (fun i => i = bx) w4).set ⟨bx, 0, none⟩ (.inl rfl) _).set ⟨bx, 1, none⟩ (.inl rfl) _).set ⟨bx, 2, none⟩ (.inl rfl) _
    have hz4 := f4.size
    have hz5 := hfr.size
    have hbw : Fr No w (((w4.setCell ⟨bx, 0, none⟩ (.slice A t1.kc.length c)).setCell ⟨bx, 1, none⟩ (.slice B t1.kc.length d)).setCell ⟨bx, 2, none⟩ (.int .i64 t1.now)) := (h5.trans (f34.mono fun _ _ f => f.elim)).trans (hfr.mono fun i _ e => .inr (by omega))
    refine ⟨⟨FS, fun i => (FM i ∨ wr.heap.size ≤ i) ∧ i < w3.heap.size, (h1.fr0 f34).fr hfr (fun i hi e => (h3 i hi).2.2.1 e), (h2.fr0 f34).put (Fr.refl _ _) ((hv0.mono fun i hi hl => ⟨hi, hl⟩).fr0 f4) (fun h => (hG _ h).1.1 rfl), fun i hi => ?_, fun i hi => ?_⟩, hbw, h6⟩
    · have := h3 i hi
      exact ⟨this.1, fun h => by rcases h.1 with h | h; exact this.2.1 h; omega, this.2.2.1, this.2.2.2.1, by omega⟩
    · have := hG i hi
      exact ⟨⟨this.1.1, by omega⟩, this.2⟩
  · have f34 : Fr No wr w4 := f.trans (f4.mono fun _ _ f => f.elim)
    have hz4 := f4.size
    refine ⟨⟨FS, fun i => (FM i ∨ wr.heap.size ≤ i) ∧ i < w3.heap.size, h1.fr0 f34, ⟨A, c, B, d, hblk, (hv0.mono fun i hi hl => ⟨hi, hl⟩).fr0 f4⟩, fun i hi => ?_, fun i hi => ?_⟩, h5.trans (f34.mono fun _ _ f => f.elim), by omega⟩
    · have := h3 i hi
      exact ⟨this.1, fun h => by rcases h.1 with h | h; exact this.2.1 h; omega, by omega, this.2.2.2.1, by omega⟩
    · have := hG i hi
      exact ⟨⟨by omega, by omega⟩, this.2⟩
/-- The document's Apply. -/
theorem Mid.ref {A' : Option Addr} {c' : Nat} {ws : List Wr} {R' : Nat → Prop} (n : Int) (h : Mid w wr sb bx s t R) (ht : t.Fine m) (hm : m ≤ 100000000) (hb : Rd tWr wr R' A' ws) (hl : ws.length ≤ 1000000000) (hk : ∀ x ∈ ws, x.key.size ≤ 9223372036854775807) :
    ∃ A c B d, wr.heap[bx]? = some (.cells #[.slice A t.kc.length c, .slice B t.kc.length d, .int .i64 t.now] 55 (0, 0)) ∧
      Calls Try.prog 39 #[.agg #[.slice A t.kc.length c, .slice B t.kc.length d, .int .i64 t.now], .agg #[.int .i64 n, .slice A' ws.length c']] wr fun e w3 =>
        ∃ A1 c1 B1 d1, e = .returned (.tuple #[.agg #[.slice A1 (t.apply n ws).1.kc.length c1, .slice B1 (t.apply n ws).1.kc.length d1, .int .i64 (t.apply n ws).1.now], .int .i64 (t.apply n ws).2]) ∧ Fr No wr w3 ∧ Come w w3 sb bx s (t.apply n ws).1 R A1 c1 B1 d1 := by
  obtain ⟨⟨FS, FM, h1, h2, h3, h4⟩, h5, h6⟩ := h
  obtain ⟨A, c, B, d, h8, h7⟩ := h2.box
  refine ⟨A, c, B, d, h8, (ref_apply (e := c') n h7 ht hm hb hl hk).mono ?_⟩
  rintro e w3 ⟨u, rfl, hv, hf⟩
  obtain ⟨A1, c1, B1, d1, rfl, hc⟩ := Mid.come (R := R) ⟨FS, h1, h2, h3, h4⟩ h5 h6 hf hv
  exact ⟨A1, c1, B1, d1, rfl, hf, hc⟩
end
end Go.Proofs.Ytkcppngopdiljaa
/- Laws of layer 13 (store): stored, the walk. -/
set_option linter.unusedVariables false
set_option linter.unusedSimpArgs false
namespace Go.Proofs.Ytkcppngopdiljaa
open Go.RowKit

/-- What stored answers. -/
structure Stored (w w3 : World) (sb : Nat) (s : Sto) (A : Option Addr) (c : Nat) (B : Option Addr) (d : Nat) : Prop where
  made : ∀ w4 b, Fr No w3 w4 → w3.heap.size ≤ b → w4.heap[b]? = some (.cells #[.slice A s.kc.length c, .slice B s.kc.length d, .int .i64 s.now] 55 (0, 0)) → Mid w w4 sb b s s No
theorem mid_stored {w w0 wr : World} {sb bx : Nat} {s : Sto} {R : Nat → Prop} {A B : Option Addr} {c d : Nat} (h : Mid w0 wr sb bx s s R) (f0 : Fr No w w0) (hsz : w0.heap.size = w.heap.size + 1) (hb : wr.heap[bx]? = some (.cells #[.slice A s.kc.length c, .slice B s.kc.length d, .int .i64 s.now] 55 (0, 0))) :
    let w3 := ((wr.setCell ⟨w.heap.size, 0, none⟩ (.slice A s.kc.length c)).setCell ⟨w.heap.size, 1, none⟩ (.slice B s.kc.length d)).setCell ⟨w.heap.size, 2, none⟩ (.int .i64 s.now)
    Stored w w3 sb s A c B d ∧ Fr No w w3 := by
  obtain ⟨⟨FS, FM, h1, h2, h3, h4⟩, h5, h6⟩ := h
  obtain ⟨A0, c0, B0, d0, h8, h7⟩ := h2.box
  rw [hb] at h8
  injection h8 with h8
  simp only [Obj.cells.injEq, Array.mk.injEq, List.cons.injEq, Value.slice.injEq] at h8
  obtain ⟨⟨⟨rfl, _, rfl⟩, ⟨rfl, _, rfl⟩, _⟩, _⟩ := h8
  have hfr : Fr (fun i => i = w.heap.size) wr (((wr.setCell ⟨w.heap.size, 0, none⟩ (.slice A s.kc.length c)).setCell ⟨w.heap.size, 1, none⟩ (.slice B s.kc.length d)).setCell ⟨w.heap.size, 2, none⟩ (.int .i64 s.now)) :=
    (((Fr.refl (fun i => i = w.heap.size) wr).set ⟨w.heap.size, 0, none⟩ (.inl rfl) _).set ⟨w.heap.size, 1, none⟩ (.inl rfl) _).set ⟨w.heap.size, 2, none⟩ (.inl rfl) _
  have hwr : Fr No w wr := f0.trans (h5.mono fun _ _ f => f.elim)
  have hz := hfr.size
  have hFS : ∀ i, FS i → i ≠ w.heap.size := fun i hi e => by have := (h3 i hi).1; omega
  have hFM : ∀ i, FM i → i ≠ w.heap.size := fun i hi e => by have := (h4 i hi).2; omega
  have h1' := h1.fr hfr hFS
  have h7' := h7.fr hfr hFM
  have hw3 := hwr.trans (hfr.mono fun i _ e => .inr (by omega))
  refine ⟨⟨fun w4 b f4 hlb hblk => ⟨⟨FS, FM, h1'.fr0 f4, ⟨A, c, B, d, hblk, h7'.fr0 f4⟩, fun i hi => ?_, fun i hi => ?_⟩, hw3.trans (f4.mono fun _ _ f => f.elim), ?_⟩⟩, hw3⟩
  · have g3 := h3 i hi
    have := f4.size
    exact ⟨by omega, g3.2.1, by omega, fun f => f, by omega⟩
  · have g4 := h4 i hi
    have := f4.size
    exact ⟨⟨by omega, by omega⟩, by omega⟩
  · have := hw3.size
    omega

/-- What stands at the loop's head. -/
structure StInv (w0 wr : World) (sb bx : Nat) (s : Sto) (ls : List (List Actn)) (k : Nat) : Prop where
  le : k ≤ ls.length
  mid : ∃ s, s = stAll Sto.empty (ls.take k) ∧ Mid w0 wr sb bx s s No

theorem nowi {s : Sto} {m : Nat} (h : s.Fine m) (hm : m ≤ 100000000) : 0 ≤ s.now ∧ s.now ≤ 100000000 := ⟨h.small.now0, by have := h.small.now1; omega⟩

set_option maxHeartbeats 4000000 in
set_option maxRecDepth 100000 in
theorem law_stored {w : World} {F : Nat → Prop} {D : Option Addr} {e : Nat} {ls : List (List Actn)} (h : Rd (Ty.slice tAct) w F D ls) (hlots : lotsB ls = true) :
    Calls Try.prog 22 #[.slice D ls.length e] w fun e w' => ∃ sb A c B d, e = .returned (.tuple #[.pointer (some ⟨sb, 0, none⟩), .agg #[.slice A (stAll Sto.empty ls).kc.length c, .slice B (stAll Sto.empty ls).kc.length d, .int .i64 (stAll Sto.empty ls).now]]) ∧
      Stored w w' sb (stAll Sto.empty ls) A c B d ∧ Fr No w w' := by
  obtain ⟨hl20, hl10⟩ := lotsB_all hlots
  have hlI : (ls.length : Int) ≤ 20 := by omega
  obtain ⟨w0, hw0⟩ : ∃ w0, w0 = w.alloc (.cells #[.slice none 0 0, .slice none 0 0, .int .i64 0] 55) := ⟨_, rfl⟩
  have hsz0 : w0.heap.size = w.heap.size + 1 := by rw [hw0]; simp
  have hf0 : Fr No w w0 := by rw [hw0]; exact (Fr.refl No w).alloc _
  have hb0 : w0.heap[w.heap.size]? = some (.cells #[.slice none 0 0, .slice none 0 0, .int .i64 0] 55 (0, 0)) := by rw [hw0]; exact heap_alloc_new w _
  have H := Lib.hid (And.intro (h.mono fun i hi hl => (⟨hi, hl⟩ : F i ∧ i < w.heap.size)) (And.intro hl10 (And.intro hsz0 (And.intro hf0 hb0))))
  clear h hl10 hlots hsz0 hf0 hb0
  go_enter Try.func22, Try.ntmps22
  go_wp2_with fail
  rw [← hw0]
  clear hw0
  refine (store_new w0).mono ?_
  rintro e1 w1 ⟨sb, rfl, hs1, hf1⟩
  obtain ⟨W, hW⟩ : ∃ W, W = w1.alloc (.cells #[.slice none 0 0, .slice none 0 0, .int .i64 0] 55) := ⟨_, rfl⟩
  have hfW : Fr No w1 W := by rw [hW]; exact (Fr.refl No w1).alloc _
  have hsW : W.heap.size = w1.heap.size + 1 := by rw [hW]; simp
  have hbW : W.heap[w1.heap.size]? = some (.cells #[.slice none 0 0, .slice none 0 0, .int .i64 0] 55 (0, 0)) := by rw [hW]; exact heap_alloc_new w1 _
  have hM : Mid w0 W sb w1.heap.size Sto.empty Sto.empty No := ⟨⟨fun i => w0.heap.size ≤ i ∧ i < w1.heap.size, fun _ => False, (hs1.mono fun i hi hl => ⟨hi, hl⟩).fr0 hfW, ⟨none, 0, none, 0, hbW, none, 0, none, 0, rfl, Nat.le_refl _, Nat.le_refl _, Rd.nil, Rd.nil⟩, fun i hi => ⟨hi.1, fun f => f, by have := hi.2; omega, fun f => f, by have := hi.2; omega⟩, fun i hi => hi.elim⟩, hf1.trans (hfW.mono fun _ _ f => f.elim), hf1.size⟩
  have HM := Lib.hid hM
  clear hs1 hf1 hfW hsW hbW hM
  go_wp2_with fail
  rw [← hW]
  clear hW
  go_loopw [6] (fun i wr => ∃ (k : Nat), i = .int .i64 k ∧ Hid (StInv w0 wr sb w1.heap.size Sto.empty ls k)) (fun i _ => ls.length - (intOf i).toNat)
  case atStart => exact ⟨0, rfl, ⟨Nat.zero_le _, _, rfl, HM.out⟩⟩
  case round =>
    obtain ⟨k, rfl, I⟩ := hrel
    have hq0 : (0 : Int) ≤ (k : Int) := Int.natCast_nonneg _
    obtain ⟨s, hse, hMid⟩ := I.out.mid
    have hkl := I.out.le
    have hfine : s.Fine 1280 := by rw [hse]; exact (stAll_fine empty_fine (ls.take k)).mono (by have := List.length_take_le' k ls; omega)
    obtain ⟨hn0, hn1⟩ := nowi hfine (by omega)
    have hwr : Fr No w wr := H.out.2.2.2.1.trans (hMid.fr.mono fun _ _ f => f.elim)
    have HMid := Lib.hid hMid
    obtain ⟨A, c, B, d, hblk, _⟩ := hMid.blk
    have a0 := blk_cell hblk 0
    have a1 := blk_cell hblk 1
    have a2 := blk_cell hblk 2
    simp at a0 a1 a2
    clear hMid
    by_cases hlt : k < ls.length
    · have hq1 : (k : Int) < (ls.length : Int) := by omega
      obtain ⟨ad, A', c', rfl, x0, hc', hr'⟩ := acts_at (H.out.1.fr0 hwr) hlt
      have hstep : stAll Sto.empty (ls.take (k + 1)) = stStep s ls[k] := by rw [List.take_succ_eq_append_getElem hlt, stAll_snoc, ← hse]
      have h10 := H.out.2.1 _ (List.getElem_mem hlt)
      obtain ⟨a, ha⟩ : ∃ a, ls[k] = a := ⟨_, rfl⟩
      rw [ha] at x0 hc' hr' hstep h10
      have hin : (a.length : Int) ≤ 10 := by omega
      by_cases hz : a.length = 0
      · have hst : stStep s a = s := by unfold stStep; rw [if_pos hz]
        have HS := Lib.hid (And.intro (hstep.trans hst) (And.intro hblk hfine))
        have hz' : (a.length : Int) = 0 := by omega
        clear hstep hst ha hc' hr' hse hblk hfine hz
        generalize a.length = n at *
        obtain rfl : n = 0 := by omega
        clear hz' hin
        go_wp2
        go_roundw
        case rel => exact ⟨k + 1, by go_num, ⟨by omega, s, HS.out.1.symm, HMid.out⟩⟩
        case measure => simp [intOf]; omega
      · have hst : stStep s a = (s.apply (s.now + 1) (batchW a)).1 := by unfold stStep; rw [if_neg hz]
        have hcode := apply_batch hfine hz (by omega)
        have hz' : ((a.length : Int) == 0) = false := by rw [beq_eq_false_iff_ne]; omega
        have hwb := batchW_len a
        have hbk : ∀ x ∈ batchW a, x.key.size ≤ 9223372036854775807 := fun x hx => by have := (batchW_mem hx).1; omega
        have hbat := fun w' (f : Fr No wr w') => ref_batch (e := c') (s.now + 1) (hr'.fr0 f) (by omega)
        rw [hst] at hstep
        obtain ⟨s1, hs1⟩ : ∃ s1, (s.apply (s.now + 1) (batchW a)).1 = s1 := ⟨_, rfl⟩
        rw [hs1] at hstep
        have HS := Lib.hid (And.intro hstep (And.intro hcode (And.intro hbk (And.intro hbat (And.intro hs1 hfine)))))
        have hwbI : (batchW a).length ≤ 10 := by omega
        have hwrap : IntKind.i64.wrap (s.now + 1) = s.now + 1 := IntWalk.i64_in _ (by omega)
        clear hstep hst ha hc' hr' hse hblk hcode hbk hbat hs1 hfine hwb
        go_wp2_with fail
        go_cut [7] (fun s7 wx => ∃ b : Nat, s7 = .pointer (some ⟨b, 0, none⟩) ∧ Hid (BatBox wr wx b (s.now + 1) (batchW a)))
        case first =>
          go_region_held3 (fun w' => w'.cell? ⟨w1.heap.size, 2, none⟩ = some (.int .i64 s.now) ∧ w'.cell? (ad.add k) = some (.slice A' a.length c'))
            (first
              | exact ⟨a2, x0⟩
              | exact ⟨cell_alloc a2 _, cell_alloc x0 _⟩
              | exact ⟨q0, q1⟩
              | exact ⟨cell_set2 q0 (World.block_lt_of_cell? wr _ a2) _ _, cell_set2 q1 (World.block_lt_of_cell? wr _ x0) _ _⟩
              | exact ⟨cell_alloc q0 _, cell_alloc q1 _⟩)
            (first
              | (go_at_call 37; refine (HS.out.2.2.2.1 _ (by repeat (first | exact Fr.refl _ _ | apply Fr.alloc | apply Fr.drew | apply Fr.drewN))).mono ?_; rintro e6 w6 ⟨A6, c6, rfl, hf6, hc6, hr6⟩
                 have hg6 : Fr No wr w6 := Fr.trans (by repeat (first | exact Fr.refl _ _ | apply Fr.alloc | apply Fr.drew | apply Fr.drewN)) (hf6.mono fun _ _ f => f.elim)
                 have q0 := hg6.cell a2 (fun f => f)
                 have q1 := hg6.cell x0 (fun f => f)
                 first
                   | (have bN : w6.heap[wr.heap.size]? = some (.cells #[.int .i64 0, .slice none 0 0] 40 (0, 0)) := hf6.blk (heap_alloc_new _ _) (fun f => f)
                      have m0 := blk_cell bN 0
                      have m1 := blk_cell bN 1
                      have y0 := blk_frozen bN 0
                      have y1 := blk_frozen bN 1
                      simp at m0 m1)
                   | skip
                 have H6 := Lib.hid (And.intro hf6 (And.intro hc6 hr6))
                 clear hf6 hc6 hr6 hg6))
          all_goals go_wp2_with fail
          all_goals go_meet
          all_goals first
            | exact ⟨_, rfl, bat_behind (by repeat (first | exact Fr.refl _ _ | apply Fr.alloc | apply Fr.drew | apply Fr.drewN)) H6.out.1 H6.out.2.1 H6.out.2.2⟩
            | (refine ⟨_, rfl, bat_before (w0 := wr.drew.alloc (.cells #[.int .i64 0, .slice none 0 0] 40)) ?_ ?_ ?_ H6.out.1 H6.out.2.1 H6.out.2.2⟩
               · repeat (first | exact Fr.refl _ _ | apply Fr.alloc | apply Fr.drew | apply Fr.drewN)
               · simp
               · exact heap_alloc_new wr _)
        case rest =>
          obtain ⟨b, rfl, HB⟩ := hcut
          obtain ⟨A8, c8, hb8, hc8, hr8⟩ := HB.out.box
          have hRb : wr.heap.size ≤ b ∧ b < wc.heap.size := ⟨HB.out.lt, blk_lt hb8⟩
          have hr8' := hr8.mono (G := fun i => wr.heap.size ≤ i ∧ i < wc.heap.size) fun i hi hl => ⟨hi.1, hl⟩
          have hap := (HMid.out.add HB.out.fr |>.mono (R' := fun i => wr.heap.size ≤ i ∧ i < wc.heap.size) fun i hi => .inr hi.1).apply (c' := c8) (s.now + 1) (fun i hi => hi.2) HS.out.2.2.2.2.2.small (by omega) hr8' (by omega) HS.out.2.2.1
          rw [HS.out.2.1, HS.out.2.2.2.2.1] at hap
          have k0 := blk_cell hb8 0
          have k1 := blk_cell hb8 1
          simp at k0 k1
          have HA := Lib.hid (And.intro hap (And.intro hb8 (And.intro hr8' hRb)))
          clear hap hb8 hc8 hr8 hr8' hRb
          go_wp2_with fail
          refine HA.out.1.mono ?_
          rintro e2 w2 ⟨rfl, hm2, S, hfS, hRS⟩
          have hb2 := hfS.blk HA.out.2.1 (hRS b HA.out.2.2.2)
          obtain ⟨A2, c2, B2, d2, hbx, href⟩ := hm2.ref (c' := c8) (s.now + 1) HS.out.2.2.2.2.2 (by omega) (HA.out.2.2.1.fr hfS fun i hi => hRS i hi) (by omega) HS.out.2.2.1
          rw [HS.out.2.1, HS.out.2.2.2.2.1] at href
          have j0 := blk_cell hb2 0
          have j1 := blk_cell hb2 1
          have l0 := blk_cell hbx 0
          have l1 := blk_cell hbx 1
          have l2 := blk_cell hbx 2
          simp at j0 j1 l0 l1 l2
          have HR := Lib.hid (And.intro href hbx)
          clear href hbx hb2 hm2 hfS hRS a0 a1 a2 x0
          go_wp2_with fail
          refine HR.out.1.mono ?_
          rintro e3 w3 ⟨A3, c3, B3, d3, rfl, hf3, hcome⟩
          have hbx3 := hf3.blk HR.out.2 (fun f => f)
          have p0 := blk_cell hbx3 0
          have p1 := blk_cell hbx3 1
          have p2 := blk_cell hbx3 2
          have z0 := blk_frozen hbx3 0
          have z1 := blk_frozen hbx3 1
          have z2 := blk_frozen hbx3 2
          simp at p0 p1 p2
          have HC := Lib.hid hcome
          clear hf3 hcome hbx3
          go_wp2_with fail
          go_roundw
          case rel => exact ⟨k + 1, by go_num, ⟨by omega, s1, HS.out.1.symm, (HC.out.laid w3 (Fr.refl _ _)).mono fun i f => f.elim⟩⟩
          case measure => simp [intOf]; omega
    · obtain rfl : k = ls.length := by omega
      rw [List.take_length] at hse
      have hbw : wr.heap[w.heap.size]? = some (.cells #[.slice none 0 0, .slice none 0 0, .int .i64 0] 55 (0, 0)) := HMid.out.fr.blk H.out.2.2.2.2 (fun f => f)
      have r0 := blk_cell hbw 0
      have r1 := blk_cell hbw 1
      have r2 := blk_cell hbw 2
      have z0 := blk_frozen hbw 0
      have z1 := blk_frozen hbw 1
      have z2 := blk_frozen hbw 2
      simp at r0 r1 r2
      have hb4 := blk_set (blk_set (blk_set hbw 0 (.slice A s.kc.length c)) 1 (.slice B s.kc.length d)) 2 (.int .i64 s.now)
      have d0 := blk_cell hb4 0
      have d1 := blk_cell hb4 1
      have d2 := blk_cell hb4 2
      simp at d0 d1 d2
      have hfin := mid_stored HMid.out H.out.2.2.2.1 H.out.2.2.1 hblk
      have HE := Lib.hid (And.intro hfin (And.intro d0 (And.intro d1 (And.intro d2 hse))))
      clear hfin d0 d1 d2 hb4 hbw hblk hse
      go_wp2_with fail
      go_region
      go_wp2
      obtain ⟨⟨hst, hfr⟩, d0, d1, d2, hse⟩ := HE.out
      subst hse
      refine bodyPost_ret (v := .tuple #[.pointer (some ⟨sb, 0, none⟩), .agg #[.slice A (stAll Sto.empty ls).kc.length c, .slice B (stAll Sto.empty ls).kc.length d, .int .i64 (stAll Sto.empty ls).now]]) (by simp [results, Try.results22, go_sem, d0, d1, d2]) rfl ⟨sb, A, c, B, d, rfl, ?_, hfr.drew⟩
      exact ⟨fun w4 b f4 hb hblk => hst.made w4 b ⟨f4.os, f4.tape, f4.output, f4.size, f4.block⟩ hb hblk⟩
end Go.Proofs.Ytkcppngopdiljaa
/- Reference 14 (tx): Late. -/
set_option linter.unusedVariables false
set_option linter.unusedSimpArgs false
namespace Go.Proofs.Ytkcppngopdiljaa
open Go.RowKit

set_option maxHeartbeats 2000000 in
set_option maxRecDepth 100000 in
theorem ref_late {w : World} {F FM : Nat → Prop} {v u : Value} {base : Int} {ws : List Wr} {s : Sto} {m : Nat} (h : TxVal w F v base ws) (k : StoVal w FM u s) (hs : s.Fine m) (hm : m ≤ 100000000) (hn : ws.length ≤ 1000000) :
    Calls Try.prog 24 #[v, u] w fun e w' => e = .returned (.bool (ws.any fun x => decide (base < s.last x.key))) ∧ Fr No w w' := by
  have k0 := k
  obtain ⟨A, c, rfl, h1, h2⟩ := h
  obtain ⟨B1, d1, B2, d2, rfl, _⟩ := k
  have hnI : (ws.length : Int) ≤ 1000000 := by omega
  obtain ⟨W, hW⟩ : ∃ W, W = (w.alloc (.cells #[.int .i64 base, .slice A ws.length c] 34)).alloc (.cells #[.slice B1 s.kc.length d1, .slice B2 s.kc.length d2, .int .i64 s.now] 55) := ⟨_, rfl⟩
  have hf : Fr No w W := by rw [hW]; exact ((Fr.refl No w).alloc _).alloc _
  have hb0 : W.heap[w.heap.size]? = some (.cells #[.int .i64 base, .slice A ws.length c] 34 (0, 0)) := by rw [hW]; exact blk_two1 ..
  have hb1 : W.heap[w.heap.size + 1]? = some (.cells #[.slice B1 s.kc.length d1, .slice B2 s.kc.length d2, .int .i64 s.now] 55 (0, 0)) := by rw [hW]; exact blk_two2 ..
  have hlast := fun w' (f : Fr No W w') key => ref_last key ((k0.fr0 hf).fr0 f) hs hm
  have H := Lib.hid (And.intro (h2.fr0 hf) (And.intro hf (And.intro hb0 (And.intro hb1 hlast))))
  clear h2 hf hb0 hb1 hlast hs k0
  go_enter Try.func24, Try.ntmps24
  go_wp2_with fail
  rw [← hW]
  clear hW
  go_loopw [5] (fun i wr => ∃ k : Nat, k ≤ ws.length ∧ i = .int .i64 k ∧ Hid ((ws.take k).any (fun x => decide (base < s.last x.key)) = false ∧ Fr No W wr)) (fun i _ => ws.length - (intOf i).toNat)
  case atStart => exact ⟨0, Nat.zero_le _, rfl, rfl, Fr.refl _ _⟩
  case round =>
    obtain ⟨k, hk, rfl, I⟩ := hrel
    have hq0 : (0 : Int) ≤ (k : Int) := Int.natCast_nonneg _
    have hB0 := I.out.2.blk H.out.2.2.1 (fun f => f)
    have hB1 := I.out.2.blk H.out.2.2.2.1 (fun f => f)
    have a0 := blk_cell hB0 0
    have a1 := blk_cell hB0 1
    have b0 := blk_cell hB1 0
    have b1 := blk_cell hB1 1
    have b2 := blk_cell hB1 2
    simp at a0 a1 b0 b1 b2
    clear hB0 hB1
    by_cases hlt : k < ws.length
    · have hq1 : (k : Int) < (ws.length : Int) := by omega
      obtain ⟨ad, A', c', rfl, x0, _, _, _, _⟩ := wr_at (H.out.1.fr0 I.out.2) hlt
      have hany : (ws.take (k + 1)).any (fun x => decide (base < s.last x.key)) = decide (base < s.last ws[k].key) := by rw [List.take_succ_eq_append_getElem hlt, List.any_append, I.out.1]; simp
      have hall : decide (base < s.last ws[k].key) = true → ws.any (fun x => decide (base < s.last x.key)) = true := fun h => List.any_eq_true.2 ⟨_, List.getElem_mem hlt, h⟩
      obtain ⟨x, hx⟩ : ∃ x, ws[k] = x := ⟨_, rfl⟩
      rw [hx] at x0 hany hall
      obtain ⟨la, hla⟩ : ∃ la, s.last x.key = la := ⟨_, rfl⟩
      have hcall := fun w' (f : Fr No W w') => H.out.2.2.2.2 w' f x.key
      rw [hla] at hany hall
      simp only [hla] at hcall
      have HC := Lib.hid (And.intro hcall (And.intro hany hall))
      clear hcall hany hall hx hla
      have gI := I.out.2
      by_cases hd : base < la
      · go_wp2_with fail
        go_region_held3 (fun w' => w'.cell? ⟨w.heap.size, 0, none⟩ = some (.int .i64 base) ∧ w'.cell? ⟨w.heap.size, 1, none⟩ = some (.slice (some ad) ws.length c) ∧ w'.cell? ⟨w.heap.size + 1, 0, none⟩ = some (.slice B1 s.kc.length d1) ∧ w'.cell? ⟨w.heap.size + 1, 1, none⟩ = some (.slice B2 s.kc.length d2) ∧ w'.cell? ⟨w.heap.size + 1, 2, none⟩ = some (.int .i64 s.now) ∧ w'.cell? (ad.add (k * 3)) = some (.string x.key))
          (first
            | exact ⟨a0, a1, b0, b1, b2, x0⟩
            | exact ⟨q0, q1, q2, q3, q4, q5⟩)
          (first
            | (go_at_call 43; refine (HC.out.1 _ (by repeat (first | assumption | exact Fr.refl _ _ | apply Fr.drew | apply Fr.drewN))).mono ?_; rintro e7 w7 ⟨rfl, hf7⟩
               have g7 : Fr No W w7 := Fr.trans (by repeat (first | assumption | exact Fr.refl _ _ | apply Fr.drew | apply Fr.drewN)) (hf7.mono fun _ _ f => f.elim)
               have r7 : Fr No wr w7 := Fr.trans (by repeat (first | exact Fr.refl _ _ | apply Fr.drew | apply Fr.drewN)) (hf7.mono fun _ _ f => f.elim)
               have q0 := r7.cell a0 (fun f => f)
               have q1 := r7.cell a1 (fun f => f)
               have q2 := r7.cell b0 (fun f => f)
               have q3 := r7.cell b1 (fun f => f)
               have q4 := r7.cell b2 (fun f => f)
               have q5 := r7.cell x0 (fun f => f)
               clear hf7))
        all_goals
          go_wp2_with fail
          go_ret
          exact ⟨by rw [HC.out.2.2 (decide_eq_true hd)]; rfl, H.out.2.1.trans (Fr.mono (F := No) (by repeat (first | assumption | exact Fr.refl _ _ | apply Fr.drew | apply Fr.drewN)) fun _ _ f => f.elim)⟩
      · go_wp2_with fail
        go_region_held3 (fun w' => w'.cell? ⟨w.heap.size, 0, none⟩ = some (.int .i64 base) ∧ w'.cell? ⟨w.heap.size, 1, none⟩ = some (.slice (some ad) ws.length c) ∧ w'.cell? ⟨w.heap.size + 1, 0, none⟩ = some (.slice B1 s.kc.length d1) ∧ w'.cell? ⟨w.heap.size + 1, 1, none⟩ = some (.slice B2 s.kc.length d2) ∧ w'.cell? ⟨w.heap.size + 1, 2, none⟩ = some (.int .i64 s.now) ∧ w'.cell? (ad.add (k * 3)) = some (.string x.key))
          (first
            | exact ⟨a0, a1, b0, b1, b2, x0⟩
            | exact ⟨q0, q1, q2, q3, q4, q5⟩)
          (first
            | (go_at_call 43; refine (HC.out.1 _ (by repeat (first | assumption | exact Fr.refl _ _ | apply Fr.drew | apply Fr.drewN))).mono ?_; rintro e7 w7 ⟨rfl, hf7⟩
               have g7 : Fr No W w7 := Fr.trans (by repeat (first | assumption | exact Fr.refl _ _ | apply Fr.drew | apply Fr.drewN)) (hf7.mono fun _ _ f => f.elim)
               have r7 : Fr No wr w7 := Fr.trans (by repeat (first | exact Fr.refl _ _ | apply Fr.drew | apply Fr.drewN)) (hf7.mono fun _ _ f => f.elim)
               have q0 := r7.cell a0 (fun f => f)
               have q1 := r7.cell a1 (fun f => f)
               have q2 := r7.cell b0 (fun f => f)
               have q3 := r7.cell b1 (fun f => f)
               have q4 := r7.cell b2 (fun f => f)
               have q5 := r7.cell x0 (fun f => f)
               clear hf7))
        all_goals
          go_wp2_with fail
          go_roundw
          case rel => exact ⟨k + 1, by omega, by go_num, by rw [HC.out.2.1]; exact decide_eq_false (by omega), by show Fr No W _; exact (by repeat (first | assumption | exact Fr.refl _ _ | apply Fr.drew | apply Fr.drewN))⟩
          case measure => simp [intOf]; omega
    · obtain rfl : k = ws.length := by omega
      have hI := I.out.1
      rw [List.take_length] at hI
      have HI := Lib.hid (And.intro hI I.out.2)
      clear hI
      go_wp2_with fail
      go_ret
      exact ⟨by rw [HI.out.1]; rfl, H.out.2.1.trans (HI.out.2.mono fun _ _ f => f.elim)⟩
end Go.Proofs.Ytkcppngopdiljaa
/- Layer 14 (tx): what it sees between two keys: plain functions. -/
set_option linter.unusedVariables false
set_option linter.unusedSimpArgs false
namespace Go.Proofs.Ytkcppngopdiljaa

/-- Does a key lie between two? -/
def inB (lo hi k : ByteArray) : Bool := !kl k lo && (decide (hi.size = 0) || kl k hi)
def xget (ws : List Wr) (s : Sto) (a : Int) (k : ByteArray) : Option Bs :=
  match wfind k ws with
  | some x => if x.gone then none else some x.row
  | none => s.get a k
def xsel (ws : List Wr) (s : Sto) (a : Int) (lo hi k : ByteArray) : Option Item :=
  match xget ws s a k with
  | some row => if inB lo hi k then some (k, row) else none
  | none => none
def xall (ws : List Wr) (s : Sto) (a : Int) (lo hi : ByteArray) : List Item := (rise (s.kc.map Prod.fst ++ ws.map Wr.key)).filterMap (xsel ws s a lo hi)
def xscan (ws : List Wr) (s : Sto) (a : Int) (lo hi : ByteArray) (most : Int) : List Item := (xall ws s a lo hi).take most.toNat
def wsel (lo hi : ByteArray) (x : Wr) : Option Item := if !x.gone && inB lo hi x.key then some (x.key, x.row) else none

theorem inB_iff (lo hi k : ByteArray) : inB lo hi k = true ↔ kl k lo = false ∧ (hi.size = 0 ∨ kl k hi = true) := by
  unfold inB; cases kl k lo <;> simp

theorem nodup_sub {α : Type} [DecidableEq α] {l m : List α} (h : l.Nodup) (hs : ∀ x ∈ l, x ∈ m) : l.length ≤ m.length := by
  induction l generalizing m with
  | nil => simp
  | cons a l ih =>
    rw [List.nodup_cons] at h
    have ha := hs a (List.mem_cons_self ..)
    have := ih (m := m.erase a) h.2 fun x hx => (List.mem_erase_of_ne (by rintro rfl; exact h.1 hx)).2 (hs x (List.mem_cons_of_mem _ hx))
    rw [List.length_erase_of_mem ha] at this
    have : 0 < m.length := List.length_pos_of_mem ha
    simp only [List.length_cons]; omega

/-- Items that rise by their keys are told by their members. -/
theorem items_ext {l m : List Item} (hl : Rising (l.map Prod.fst)) (hm : Rising (m.map Prod.fst)) (h : ∀ p, p ∈ l ↔ p ∈ m) : l = m := by
  induction l generalizing m with
  | nil =>
    cases m with
    | nil => rfl
    | cons q m => exact absurd ((h q).2 (List.mem_cons_self ..)) (by simp)
  | cons p l ih =>
    cases m with
    | nil => exact absurd ((h p).1 (List.mem_cons_self ..)) (by simp)
    | cons q m =>
      obtain ⟨h1, h2⟩ := List.pairwise_cons.1 hl
      obtain ⟨k1, k2⟩ := List.pairwise_cons.1 hm
      have e : p = q := by
        rcases List.mem_cons.1 ((h p).1 (List.mem_cons_self ..)) with e | hp
        · exact e
        · rcases List.mem_cons.1 ((h q).2 (List.mem_cons_self ..)) with e | hq
          · exact e.symm
          · have a := k1 _ (List.mem_map_of_mem hp)
            have b := h1 _ (List.mem_map_of_mem hq)
            rw [kl_asymm a] at b; cases b
      subst e
      congr 1
      refine ih h2 k2 fun x => ⟨fun hx => ?_, fun hx => ?_⟩
      · rcases List.mem_cons.1 ((h x).1 (List.mem_cons_of_mem _ hx)) with e | hx'
        · subst e; have := h1 _ (List.mem_map_of_mem hx); rw [kl_irrefl] at this; cases this
        · exact hx'
      · rcases List.mem_cons.1 ((h x).2 (List.mem_cons_of_mem _ hx)) with e | hx'
        · subst e; have := k1 _ (List.mem_map_of_mem hx); rw [kl_irrefl] at this; cases this
        · exact hx'

theorem keyed_rising {β : Type} {ks : List β} {key : β → ByteArray} (h : Rising (ks.map key)) {f : β → Option Item} (hf : ∀ k p, f k = some p → p.1 = key k) : Rising ((ks.filterMap f).map Prod.fst) := by
  unfold Rising at *
  rw [List.pairwise_map] at *
  rw [List.pairwise_filterMap]
  exact h.imp fun hab p hp q hq => by rw [hf _ _ hp, hf _ _ hq]; exact hab

theorem xsel_some {ws : List Wr} {s : Sto} {a : Int} {lo hi k : ByteArray} {p : Item} : xsel ws s a lo hi k = some p ↔ p.1 = k ∧ xget ws s a k = some p.2 ∧ inB lo hi k = true := by
  unfold xsel
  cases hx : xget ws s a k with
  | none => simp
  | some row =>
    cases hb : inB lo hi k with
    | false => simp
    | true =>
      simp only [if_true, Option.some.injEq]
      constructor
      · rintro rfl; exact ⟨rfl, rfl, trivial⟩
      · rintro ⟨h1, h2, _⟩; rw [← h1, h2]
theorem xall_rising (ws : List Wr) (s : Sto) (a : Int) (lo hi : ByteArray) : Rising ((xall ws s a lo hi).map Prod.fst) := by
  refine keyed_rising (key := id) (by rw [List.map_id]; exact rising_rise _) fun k p h => (xsel_some.1 h).1
theorem mem_xall {ws : List Wr} {s : Sto} {a : Int} {lo hi : ByteArray} (p : Item) : p ∈ xall ws s a lo hi ↔ xget ws s a p.1 = some p.2 ∧ inB lo hi p.1 = true := by
  unfold xall
  rw [List.mem_filterMap]
  constructor
  · rintro ⟨k, _, hk⟩
    obtain ⟨rfl, h2, h3⟩ := xsel_some.1 hk
    exact ⟨h2, h3⟩
  · rintro ⟨h1, h2⟩
    refine ⟨p.1, ?_, xsel_some.2 ⟨rfl, h1, h2⟩⟩
    rw [mem_rise, List.mem_append]
    unfold xget at h1
    cases hf : wfind p.1 ws with
    | some x => exact .inr (by obtain ⟨hx, e⟩ := wfind_some hf; rw [← e]; exact List.mem_map_of_mem hx)
    | none =>
      rw [hf] at h1
      left
      refine Classical.byContradiction fun hn => ?_
      have := look_none_iff.2 hn
      unfold Sto.get Sto.of at h1
      rw [this] at h1
      simp [Chn.empty, Chn.get] at h1
      try cases h1

theorem mem_all {s : Sto} {a : Int} {lo hi : ByteArray} (hs : Rising (s.kc.map Prod.fst)) (p : Item) : p ∈ s.all a lo hi ↔ s.get a p.1 = some p.2 ∧ inB lo hi p.1 = true := by
  rw [Sto.all_eq, List.mem_filterMap]
  constructor
  · rintro ⟨q, hq, h⟩
    unfold Sto.sel at h
    cases hg : q.2.get a with
    | none => rw [hg] at h; cases h
    | some row =>
      rw [hg] at h
      simp only at h
      split at h
      · rename_i hb
        injection h with h
        subst h
        refine ⟨?_, (inB_iff _ _ _).2 hb⟩
        unfold Sto.get Sto.of
        rw [look_of_mem hs.nodup (show (q.1, q.2) ∈ s.kc from hq)]
        exact hg
      · cases h
  · rintro ⟨h1, h2⟩
    unfold Sto.get Sto.of at h1
    cases hl : look p.1 s.kc with
    | none => rw [hl] at h1; simp [Chn.empty, Chn.get] at h1; try cases h1
    | some c =>
      rw [hl] at h1
      refine ⟨(p.1, c), look_mem hl, ?_⟩
      unfold Sto.sel
      simp only [Option.getD_some] at h1
      simp only [h1]
      rw [if_pos ((inB_iff _ _ _).1 h2)]
theorem all_rising {s : Sto} {a : Int} {lo hi : ByteArray} (hs : Rising (s.kc.map Prod.fst)) : Rising ((s.all a lo hi).map Prod.fst) := by
  rw [Sto.all_eq]
  refine keyed_rising (key := Prod.fst) hs fun q p h => ?_
  unfold Sto.sel at h
  split at h
  · split at h
    · injection h with h; rw [← h]
    · cases h
  · cases h
theorem wsel_some {lo hi : ByteArray} {x : Wr} {p : Item} : wsel lo hi x = some p ↔ x.gone = false ∧ inB lo hi x.key = true ∧ p = (x.key, x.row) := by
  unfold wsel
  cases x.gone <;> cases inB lo hi x.key <;> simp [eq_comm]
theorem mem_wsel {ws : List Wr} (hr : Rising (ws.map Wr.key)) {lo hi : ByteArray} (p : Item) : p ∈ ws.filterMap (wsel lo hi) ↔ (∃ x, wfind p.1 ws = some x ∧ x.gone = false ∧ x.row = p.2) ∧ inB lo hi p.1 = true := by
  rw [List.mem_filterMap]
  constructor
  · rintro ⟨x, hx, h⟩
    obtain ⟨h1, h2, rfl⟩ := wsel_some.1 h
    refine ⟨⟨x, ?_, h1, rfl⟩, h2⟩
    have hf : wfind x.key ws ≠ none := fun e => (wfind_none.1 e) (List.mem_map_of_mem hx)
    cases hw : wfind x.key ws with
    | none => exact absurd hw hf
    | some y =>
      obtain ⟨hy, e⟩ := wfind_some hw
      congr 1
      have hn : ws.Pairwise fun a b => a.key ≠ b.key := (List.pairwise_map.1 hr).imp fun h => kl_ne h
      refine Classical.byContradiction fun hne => ?_
      obtain ⟨i, hi, rfl⟩ := List.mem_iff_getElem.1 hx
      obtain ⟨j, hj, rfl⟩ := List.mem_iff_getElem.1 hy
      rcases Nat.lt_trichotomy i j with h | h | h
      · exact List.pairwise_iff_getElem.1 hn i j hi hj h e.symm
      · subst h; exact hne rfl
      · exact List.pairwise_iff_getElem.1 hn j i hj hi h e
  · rintro ⟨⟨x, hf, h1, h2⟩, h3⟩
    obtain ⟨hx, e⟩ := wfind_some hf
    refine ⟨x, hx, wsel_some.2 ⟨h1, by rw [e]; exact h3, ?_⟩⟩
    rw [e, h2]

/-- Those of the store's of which it wrote nothing itself. -/
def free (ws : List Wr) (p : Item) : Bool := (wfind p.1 ws).isNone

theorem take_filter {α : Type} {l : List α} {f : α → Bool} {m : Nat} (h : ∀ x ∈ l.take m, f x = true) : (l.filter f).take m = l.take m := by
  have e : l.filter f = l.take m ++ (l.drop m).filter f := by
    conv => lhs; rw [← List.take_append_drop m l]
    rw [List.filter_append, List.filter_eq_self.2 h]
  rw [e, List.take_append, List.take_take, Nat.min_self]
  by_cases hm : m ≤ l.length
  · simp [List.length_take, Nat.min_eq_left hm]
  · rw [List.drop_eq_nil_of_le (by omega)]; simp

theorem free_many {ws : List Wr} {l : List Item} (hn : (l.map Prod.fst).Nodup) : l.length ≤ (l.filter (free ws)).length + ws.length := by
  have h1 : (l.filter fun p => !free ws p).length ≤ ws.length := by
    have := nodup_sub (l := ((l.filter fun p => !free ws p).map Prod.fst)) (m := ws.map Wr.key) ((List.filter_sublist.map _).nodup hn) fun k hk => by
      obtain ⟨p, hp, rfl⟩ := List.mem_map.1 hk
      obtain ⟨_, h2⟩ := List.mem_filter.1 hp
      refine Classical.byContradiction fun hc => ?_
      unfold free at h2
      rw [wfind_none.2 hc] at h2
      simp at h2
    simpa using this
  have h2 : l.length = (l.filter (free ws)).length + (l.filter fun p => !free ws p).length := by
    clear h1 hn
    induction l with
    | nil => rfl
    | cons p l ih => cases h : free ws p <;> simp [List.filter_cons, h, ih] <;> omega
  omega

theorem xscan_of {ws : List Wr} {s : Sto} {a : Int} {lo hi : ByteArray} {most : Int} {N : Nat} {out : List Item} (hr : Rising (ws.map Wr.key)) (hs : Rising (s.kc.map Prod.fst)) (hN : most.toNat + ws.length ≤ N ∨ s.kc.length ≤ N)
    (hso : Rising (out.map Prod.fst)) (hp : ∀ p, p ∈ out ↔ p ∈ ((s.all a lo hi).take N).filter (free ws) ∨ p ∈ ws.filterMap (wsel lo hi)) : out.take most.toNat = xscan ws s a lo hi most := by
  classical
  have hall := all_rising (a := a) (lo := lo) (hi := hi) hs
  have hX := xall_rising ws s a lo hi
  unfold xscan
  obtain ⟨T, hT⟩ : ∃ T, (s.all a lo hi).take N = T := ⟨_, rfl⟩
  obtain ⟨D, hD⟩ : ∃ D, (s.all a lo hi).drop N = D := ⟨_, rfl⟩
  have hTD : s.all a lo hi = T ++ D := by rw [← hT, ← hD, List.take_append_drop]
  rw [hT] at hp
  have hcross : ∀ x ∈ T, ∀ y ∈ D, kl x.1 y.1 = true := by
    have h1 := hall
    rw [hTD] at h1
    unfold Rising at h1
    rw [List.map_append, List.pairwise_append] at h1
    exact fun x hx y hy => h1.2.2 _ (List.mem_map_of_mem hx) _ (List.mem_map_of_mem hy)
  have hmX : ∀ p, p ∈ xall ws s a lo hi ↔ (p ∈ T ∧ free ws p = true) ∨ (p ∈ D ∧ free ws p = true) ∨ p ∈ ws.filterMap (wsel lo hi) := by
    intro p
    rw [mem_xall, mem_wsel hr]
    have hm := mem_all (a := a) (lo := lo) (hi := hi) hs p
    rw [hTD, List.mem_append] at hm
    unfold xget free
    cases hf : wfind p.1 ws with
    | none => simp only [Option.isNone_none, and_true]; constructor
              · intro h; exact (hm.2 h).imp id (fun h => .inl h)
              · rintro (h | h | ⟨⟨x, hx, _⟩, _⟩)
                · exact hm.1 (.inl h)
                · exact hm.1 (.inr h)
                · cases hx
    | some x =>
      simp only [Option.isNone_some, and_false, false_or, Bool.false_eq_true]
      constructor
      · rintro ⟨h1, h2⟩
        refine ⟨⟨x, rfl, ?_⟩, h2⟩
        cases hg : x.gone with
        | true => rw [hg] at h1; cases h1
        | false => rw [hg] at h1; exact ⟨rfl, by simpa using h1⟩
      · rintro ⟨⟨y, hy, h1, h2⟩, h3⟩
        injection hy with hy
        subst hy
        exact ⟨by rw [h1, h2]; rfl, h3⟩
  have hout : out = (xall ws s a lo hi).filter fun p : Item => decide (p.1 ∉ (D.filter (free ws)).map Prod.fst) := by
    refine items_ext hso ?_ fun p => ?_
    · exact hX.sublist (List.filter_sublist.map _)
    · rw [hp, List.mem_filter, List.mem_filter, hmX]
      simp only [decide_eq_true_eq]
      constructor
      · rintro (⟨h1, h2⟩ | h)
        · refine ⟨.inl ⟨h1, h2⟩, fun hc => ?_⟩
          obtain ⟨q, hq, e⟩ := List.mem_map.1 hc
          have := hcross p h1 q (List.mem_filter.1 hq).1
          rw [e, kl_irrefl] at this
          cases this
        · refine ⟨.inr (.inr h), fun hc => ?_⟩
          obtain ⟨q, hq, e⟩ := List.mem_map.1 hc
          have h2 := (List.mem_filter.1 hq).2
          obtain ⟨⟨x, hx, _⟩, _⟩ := (mem_wsel hr p).1 h
          unfold free at h2
          rw [e, hx] at h2
          cases h2
      · rintro ⟨h | ⟨h1, h2⟩ | h, hn⟩
        · exact .inl h
        · exact absurd (List.mem_map_of_mem (List.mem_filter.2 ⟨h1, h2⟩)) hn
        · exact .inr h
  rw [hout]
  refine take_filter fun p hpm => ?_
  simp only [decide_eq_true_eq]
  intro hc
  obtain ⟨q, hq, e⟩ := List.mem_map.1 hc
  obtain ⟨hqD, hqf⟩ := List.mem_filter.1 hq
  have hlen : (s.all a lo hi).length ≤ s.kc.length := by rw [Sto.all_eq]; exact List.length_filterMap_le _ _
  have hDl : D.length = (s.all a lo hi).length - N := by rw [← hD]; simp
  have hDp : 0 < D.length := List.length_pos_of_mem hqD
  have hN' : most.toNat + ws.length ≤ N := by rcases hN with h | h <;> omega
  have hTl : T.length = N := by rw [← hT]; simp; omega
  have hTn : (T.map Prod.fst).Nodup := by
    have := hall.nodup
    rw [hTD, List.map_append] at this
    exact (List.nodup_append.1 this).1
  have hm := free_many (ws := ws) hTn
  -- those of T all stand ahead of p
  have hsub : ∀ k ∈ p.1 :: (T.filter (free ws)).map Prod.fst, k ∈ ((xall ws s a lo hi).take most.toNat).map Prod.fst := by
    intro k hk
    rcases List.mem_cons.1 hk with rfl | hk
    · exact List.mem_map_of_mem hpm
    · obtain ⟨x, hx, rfl⟩ := List.mem_map.1 hk
      obtain ⟨hxT, hxf⟩ := List.mem_filter.1 hx
      have hxX := (hmX x).2 (.inl ⟨hxT, hxf⟩)
      have hlt := hcross x hxT q hqD
      rw [e] at hlt
      rw [← List.take_append_drop most.toNat (xall ws s a lo hi)] at hxX hX
      rcases List.mem_append.1 hxX with h | h
      · exact List.mem_map_of_mem h
      · unfold Rising at hX
        rw [List.map_append, List.pairwise_append] at hX
        have := hX.2.2 _ (List.mem_map_of_mem hpm) _ (List.mem_map_of_mem h)
        rw [kl_asymm this] at hlt
        cases hlt
  have hnd : (p.1 :: (T.filter (free ws)).map Prod.fst).Nodup := by
    rw [List.nodup_cons]
    refine ⟨fun hc => ?_, (List.filter_sublist.map _).nodup hTn⟩
    obtain ⟨x, hx, e2⟩ := List.mem_map.1 hc
    have := hcross x (List.mem_filter.1 hx).1 q hqD
    rw [e2, e, kl_irrefl] at this
    cases this
  have := nodup_sub hnd hsub
  simp at this
  have := List.length_take_le most.toNat (xall ws s a lo hi)
  omega
end Go.Proofs.Ytkcppngopdiljaa
/- Reference 14 (tx): Get. -/
set_option linter.unusedVariables false
set_option linter.unusedSimpArgs false
namespace Go.Proofs.Ytkcppngopdiljaa
open Go.RowKit

theorem TxVal.mono {w : World} {F G : Nat → Prop} {v : Value} {base : Int} {ws : List Wr} (h : TxVal w F v base ws) (k : ∀ i, F i → i < w.heap.size → G i) : TxVal w G v base ws := by
  obtain ⟨A, c, e, h1, h2⟩ := h
  exact ⟨A, c, e, h1, h2.mono k⟩
theorem TxVal.fr0 {w w' : World} {F : Nat → Prop} {v : Value} {base : Int} {ws : List Wr} (h : TxVal w F v base ws) (f : Fr No w w') : TxVal w' F v base ws := by
  obtain ⟨A, c, e, h1, h2⟩ := h
  exact ⟨A, c, e, h1, h2.fr0 f⟩
theorem RowRd.mono {w' : World} {F G : Nat → Prop} {e : Ending} {o : Option Bs} (h : RowRd w' F e o) (k : ∀ i, F i → i < w'.heap.size → G i) : RowRd w' G e o := by
  obtain ⟨A, c, h1, h2, h3⟩ := h
  exact ⟨A, c, h1, h2, h3.mono k⟩
theorem xget_own {ws : List Wr} {s : Sto} {a : Int} {k : ByteArray} {x : Wr} (h : wfind k ws = some x) : xget ws s a k = if x.gone then none else some x.row := by unfold xget; rw [h]
theorem xget_none {ws : List Wr} {s : Sto} {a : Int} {k : ByteArray} (h : wfind k ws = none) : xget ws s a k = s.get a k := by unfold xget; rw [h]

set_option maxHeartbeats 2000000 in
set_option maxRecDepth 100000 in
theorem ref_xget {w : World} {F FM : Nat → Prop} {v u : Value} {base : Int} {ws : List Wr} {s : Sto} {m : Nat} (key : ByteArray) (h : TxVal w F v base ws) (k : StoVal w FM u s) (hs : s.Fine m) (hm : m ≤ 100000000) (hr : Rising (ws.map Wr.key)) (hn : ws.length ≤ 1000000) (hg : ∀ x ∈ ws, x.gone = true → x.row = []) :
    Calls Try.prog 27 #[v, u, .string key] w fun e w' => RowRd w' (fun i => F i ∨ FM i) e (xget ws s base key) ∧ Fr No w w' := by
  have k0 := k
  obtain ⟨A, c, rfl, h1, h2⟩ := h
  obtain ⟨B1, d1, B2, d2, rfl, _⟩ := k
  have hnI : (ws.length : Int) ≤ 1000000 := by omega
  obtain ⟨W, hW⟩ : ∃ W, W = (w.alloc (.cells #[.int .i64 base, .slice A ws.length c] 34)).alloc (.cells #[.slice B1 s.kc.length d1, .slice B2 s.kc.length d2, .int .i64 s.now] 55) := ⟨_, rfl⟩
  have hf : Fr No w W := by rw [hW]; exact ((Fr.refl No w).alloc _).alloc _
  have hb0 : W.heap[w.heap.size]? = some (.cells #[.int .i64 base, .slice A ws.length c] 34 (0, 0)) := by rw [hW]; exact blk_two1 ..
  have hb1 : W.heap[w.heap.size + 1]? = some (.cells #[.slice B1 s.kc.length d1, .slice B2 s.kc.length d2, .int .i64 s.now] 55 (0, 0)) := by rw [hW]; exact blk_two2 ..
  have hget := fun w' (f : Fr No W w') => ref_get base key ((k0.fr0 hf).fr0 f) hs hm
  have H := Lib.hid (And.intro (h2.fr0 hf) (And.intro hf (And.intro hb0 (And.intro hb1 (And.intro hget (And.intro hr hg))))))
  clear h2 hf hb0 hb1 hget hs k0 hr hg
  go_enter Try.func27, Try.ntmps27
  go_wp2_with fail
  rw [← hW]
  clear hW
  go_loopw [8] (fun i wr => ∃ k : Nat, k ≤ ws.length ∧ i = .int .i64 k ∧ Hid ((∀ x ∈ ws.take k, x.key ≠ key) ∧ Fr No W wr)) (fun i _ => ws.length - (intOf i).toNat)
  case atStart => exact ⟨0, Nat.zero_le _, rfl, by simp, Fr.refl _ _⟩
  case round =>
    obtain ⟨k, hk, rfl, I⟩ := hrel
    have hq0 : (0 : Int) ≤ (k : Int) := Int.natCast_nonneg _
    have hB0 := I.out.2.blk H.out.2.2.1 (fun f => f)
    have hB1 := I.out.2.blk H.out.2.2.2.1 (fun f => f)
    have a0 := blk_cell hB0 0
    have a1 := blk_cell hB0 1
    have b0 := blk_cell hB1 0
    have b1 := blk_cell hB1 1
    have b2 := blk_cell hB1 2
    simp at a0 a1 b0 b1 b2
    clear hB0 hB1
    by_cases hlt : k < ws.length
    · have hq1 : (k : Int) < (ws.length : Int) := by omega
      obtain ⟨ad, A', c', rfl, x0, x1, x2, hc', hrd⟩ := wr_at (H.out.1.fr0 I.out.2) hlt
      have hfind := wfind_at H.out.2.2.2.2.2.1 hlt
      have hgone := H.out.2.2.2.2.2.2 ws[k] (List.getElem_mem hlt)
      have hnext : ws[k].key ≠ key → ∀ x ∈ ws.take (k + 1), x.key ≠ key := fun h x hx => by
        rw [List.take_succ_eq_append_getElem hlt, List.mem_append] at hx
        rcases hx with hx | hx
        · exact I.out.1 x hx
        · obtain rfl := List.mem_singleton.1 hx; exact h
      obtain ⟨x, hx⟩ : ∃ x, ws[k] = x := ⟨_, rfl⟩
      rw [hx] at x0 x1 x2 hfind hgone hnext hrd hc'
      have HC := Lib.hid (And.intro hfind (And.intro hgone (And.intro hnext (And.intro hrd hc'))))
      clear hfind hgone hnext hrd hc' hx
      cases hd : (x.key.toList == key.toList) with
      | true =>
        have hke : x.key = key := by rw [beq_toList] at hd; exact of_decide_eq_true hd
        subst hke
        obtain ⟨xkey, xrow, xgone⟩ := x
        dsimp only at x0 x1 x2 hd
        cases xgone with
        | true =>
          obtain rfl : xrow = [] := HC.out.2.1 rfl
          go_wp2_with fail
          go_quiet (fail)
          go_wp2_with fail
          go_ret2
          exact ⟨⟨A', c', by rw [xget_own HC.out.1]; rfl, by rw [xget_own HC.out.1]; exact Nat.zero_le _, by rw [xget_own HC.out.1]; exact Rd.nil⟩, (H.out.2.1.trans (I.out.2.mono fun _ _ f => f.elim)).drewN _⟩
        | false =>
          go_wp2_with fail
          go_quiet (fail)
          go_wp2_with fail
          go_ret2
          exact ⟨⟨A', c', by rw [xget_own HC.out.1]; rfl, by rw [xget_own HC.out.1]; exact HC.out.2.2.2.2, by rw [xget_own HC.out.1]; exact ((HC.out.2.2.2.1.fr0 ((Fr.refl No wr).drewN _)).mono fun i hi _ => .inl hi)⟩, (H.out.2.1.trans (I.out.2.mono fun _ _ f => f.elim)).drewN _⟩
      | false =>
        have hke : x.key ≠ key := by rw [beq_toList] at hd; exact of_decide_eq_false hd
        have HK := Lib.hid hke
        clear hke
        go_wp2_with fail
        go_roundw
        case rel => exact ⟨k + 1, by omega, by go_num, HC.out.2.2.1 HK.out, I.out.2⟩
        case measure => simp [intOf]; omega
    · obtain rfl : k = ws.length := by omega
      have hI := I.out.1
      rw [List.take_length] at hI
      have hfn : wfind key ws = none := wfind_none.2 fun hm => by obtain ⟨x, hx, e⟩ := List.mem_map.1 hm; exact hI x hx e
      have hcall := H.out.2.2.2.2.1 wr I.out.2
      rw [← xget_none (s := s) (a := base) hfn] at hcall
      have HI := Lib.hid hcall
      clear hI hcall hfn
      go_wp2_with fail
      refine HI.out.mono ?_
      rintro e2 w2 ⟨⟨A2, c2, rfl, hc2, hr2⟩, hf2⟩
      have HR := Lib.hid (And.intro hc2 (And.intro hr2 ((H.out.2.1.trans (I.out.2.mono fun _ _ f => f.elim)).trans (hf2.mono fun _ _ f => f.elim))))
      clear hc2 hr2 hf2
      go_wp2_with fail
      go_ret2
      exact ⟨⟨A2, c2, rfl, HR.out.1, HR.out.2.1.mono fun i hi _ => .inr hi⟩, HR.out.2.2⟩
end Go.Proofs.Ytkcppngopdiljaa
/- slices.IndexFunc and slices.DeleteFunc at items, of a function that only reads. -/
set_option linter.unusedVariables false
set_option linter.unusedSimpArgs false
namespace Go.Proofs.Ytkcppngopdiljaa
open Go.RowKit

theorem itemO_at {w : World} {F : Nat → Prop} {A : Option Addr} {xs : List Item} (h : Rd tItemO w F A xs) {i : Nat} (hi : i < xs.length) :
    ∃ ad A' c', A = some ad ∧ w.cell? (ad.add (i * 2)) = some (.string xs[i].1) ∧ w.cell? ⟨(ad.add (i * 2)).block, (ad.add (i * 2)).off + 1, none⟩ = some (.slice A' xs[i].2.length c') ∧ Ow Ty.u8 5 w F (.slice A' xs[i].2.length c') xs[i].2 := by
  obtain ⟨ad, c, e, hk, h0, h1⟩ := h.get' hi (by decide)
  obtain ⟨A', c', rfl, h3⟩ := tItemO_open hk
  exact ⟨ad, A', c', e, h0 _ rfl, h1 1 _ (by omega) rfl, h3⟩

/-- What IndexFunc answers. -/
def IdxIs (p : ByteArray → Bool) (xs : List Item) (r : Int) : Prop :=
  (r = -1 ∧ ∀ x ∈ xs, p x.1 = false) ∨ ∃ k, ∃ h : k < xs.length, r = (k : Int) ∧ p xs[k].1 = true ∧ ∀ x ∈ xs.take k, p x.1 = false

set_option maxHeartbeats 1000000 in
set_option maxRecDepth 100000 in
theorem index_item (g : Nat) (caps : Array Value) (p : ByteArray → Bool) {w : World} {F : Nat → Prop} {A : Option Addr} {c : Nat} {xs : List Item} (h : Rd tItemO w F A xs) (hl : xs.length ≤ 1000000000)
    (he : ∀ args w, Sem.run Try.prog (callFunc g args) w = .ok (.enter g args) w)
    (hg : ∀ i (hi : i < xs.length) A' n c' w', Fr No w w' → Calls Try.prog g (#[.agg #[.string xs[i].1, .slice A' n c']] ++ caps) w' fun e w'' => e = .returned (.bool (p xs[i].1)) ∧ Fr No w' w'') :
    Calls Try.prog 65 #[.slice A xs.length c, .func (.func g) #[] caps] w fun e w' => ∃ r : Int, e = .returned (.int .i64 r) ∧ IdxIs p xs r ∧ Fr No w w' := by
  have HG := Lib.hid hg
  have H := Lib.hid h
  have hli : (xs.length : Int) ≤ 1000000000 := by omega
  clear hg h
  go_enter Try.func65, Try.ntmps65
  go_wp2_with fail
  go_loopw [8] (fun i wr => ∃ k : Nat, k ≤ xs.length ∧ i = .int .i64 k ∧ Hid ((∀ x ∈ xs.take k, p x.1 = false) ∧ Fr No w wr)) (fun i _ => xs.length - (intOf i).toNat)
  case atStart => exact ⟨0, Nat.zero_le _, rfl, by simp, Fr.refl _ _⟩
  case round =>
    obtain ⟨k, hk, rfl, I⟩ := hrel
    have hq0 : (0 : Int) ≤ (k : Int) := Int.natCast_nonneg _
    by_cases hlt : k < xs.length
    · have hq1 : (k : Int) < (xs.length : Int) := by omega
      obtain ⟨ad, A', c', rfl, x0, x1, _⟩ := itemO_at (H.out.fr0 I.out.2) hlt
      have hcall := HG.out k hlt A' xs[k].2.length c' wr I.out.2
      have hT : p xs[k].1 = true → IdxIs p xs k := fun h => .inr ⟨k, hlt, rfl, h, I.out.1⟩
      have hF : p xs[k].1 = false → ∀ x ∈ xs.take (k + 1), p x.1 = false := fun h x hx => by
        rw [List.take_succ_eq_append_getElem hlt, List.mem_append] at hx
        rcases hx with hx | hx
        · exact I.out.1 x hx
        · obtain rfl := List.mem_singleton.1 hx; exact h
      obtain ⟨x, hx⟩ : ∃ x, xs[k] = x := ⟨_, rfl⟩
      rw [hx] at x0 x1 hT hF
      simp only [hx] at hcall
      have HC := Lib.hid (And.intro hcall (And.intro hT hF))
      clear hcall hT hF hx
      cases hp : p x.1 with
      | true =>
        go_wp2_with (refine HC.out.1.mono ?_; rintro e w' ⟨rfl, hf'⟩; rw [hp]; have HF := Lib.hid hf'; clear hf')
        go_ret
        exact ⟨_, rfl, HC.out.2.1 hp, I.out.2.trans (HF.out.mono fun _ _ f => f.elim)⟩
      | false =>
        go_wp2_with (refine HC.out.1.mono ?_; rintro e w' ⟨rfl, hf'⟩; rw [hp]; have HF := Lib.hid hf'; clear hf')
        go_roundw
        case rel => exact ⟨k + 1, by omega, by go_num, HC.out.2.2 hp, I.out.2.trans (HF.out.mono fun _ _ f => f.elim)⟩
        case measure => simp [intOf]; omega
    · obtain rfl : k = xs.length := by omega
      have hI := I.out.1
      rw [List.take_length] at hI
      have HI := Lib.hid hI
      clear hI
      go_wp2_with fail
      go_ret
      exact ⟨_, rfl, .inl ⟨rfl, HI.out⟩, I.out.2⟩

/-- Under way: what is kept of the first j lies ahead, of two cells each; what is behind j lies as it did. -/
structure DelInv (p : ByteArray → Bool) (w : World) (F : Nat → Prop) (g cap : Nat) (cs : List Value) (xs : List Item) (i j : Nat) (wr : World) : Prop where
  len : i = ((xs.take j).filter fun x => !p x.1).length
  le : i < j
  blk : ∃ cur, wr.heap[g]? = some (.cells cur 65 (0, 0)) ∧ cur.size = cap * 2 ∧ Row tItemO wr (fun k => F k ∧ k ≠ g) ((xs.take j).filter fun x => !p x.1) (cur.toList.take (i * 2)) ∧ ∀ t, j * 2 ≤ t → t < xs.length * 2 → cur[t]? = cs[t]?
  fr : Fr (fun k => k = g) w wr

theorem store2_take {cur : Array Value} {i : Nat} {a b : Value} (h : i * 2 + 1 < cur.size) : ((cur.setIfInBounds (i * 2) a).setIfInBounds (i * 2 + 1) b).toList.take ((i + 1) * 2) = cur.toList.take (i * 2) ++ [a, b] := by
  apply List.ext_getElem?
  intro t
  rw [List.getElem?_take, Array.getElem?_toList, Array.getElem?_setIfInBounds, Array.getElem?_setIfInBounds]
  simp only [Array.size_setIfInBounds]
  by_cases h1 : t < i * 2
  · rw [if_pos (by omega), if_neg (by omega), if_neg (by omega), List.getElem?_append_left (by simp; omega), List.getElem?_take, if_pos h1, Array.getElem?_toList]
  · have hl : (cur.toList.take (i * 2)).length = i * 2 := by simp; omega
    rw [List.getElem?_append_right (by omega), hl]
    by_cases h2 : t = i * 2
    · subst h2
      rw [if_pos (by omega), if_neg (by omega), if_pos rfl, if_pos (by omega)]
      simp
    · by_cases h3 : t = i * 2 + 1
      · subst h3
        rw [if_pos (by omega), if_pos rfl, if_pos (by omega)]
        simp
      · rw [if_neg (by omega)]
        symm
        rw [List.getElem?_eq_none_iff]
        simp; omega

theorem DelInv.skip {p : ByteArray → Bool} {w : World} {F : Nat → Prop} {g cap : Nat} {cs : List Value} {xs : List Item} {i j : Nat} {wr wr' : World} (I : DelInv p w F g cap cs xs i j wr) (hj : j < xs.length) (hp : p xs[j].1 = true) (f : Fr No wr wr') : DelInv p w F g cap cs xs i (j + 1) wr' := by
  obtain ⟨h1, h2, ⟨cur, h3, h4, h5, h6⟩, h7⟩ := I
  have e : ((xs.take (j + 1)).filter fun x => !p x.1) = (xs.take j).filter fun x => !p x.1 := by
    rw [List.take_succ_eq_append_getElem hj, List.filter_append]; simp [hp]
  exact ⟨by rw [e]; exact h1, by omega, ⟨cur, f.blk h3 (fun f => f), h4, by rw [e]; exact h5.stab fun k _ hl => f.block k hl (fun f => f), fun t ht ht2 => h6 t (by omega) ht2⟩, h7.trans (f.mono fun _ _ f => f.elim)⟩

theorem DelInv.keep {p : ByteArray → Bool} {w : World} {F : Nat → Prop} {g cap : Nat} {cs : List Value} {xs : List Item} {i j : Nat} {wr wr' : World} {A' : Option Addr} {c' : Nat} (I : DelInv p w F g cap cs xs i j wr) (hj : j < xs.length) (hcap : xs.length ≤ cap) (hp : p xs[j].1 = false) (f : Fr No wr wr')
    (hb : Ow Ty.u8 5 w (fun k => F k ∧ k ≠ g) (.slice A' xs[j].2.length c') xs[j].2) :
    DelInv p w F g cap cs xs (i + 1) (j + 1) ((wr'.setCell ⟨g, i * 2, none⟩ (.string xs[j].1)).setCell ⟨g, i * 2 + 1, none⟩ (.slice A' xs[j].2.length c')) := by
  obtain ⟨h1, h2, ⟨cur, h3, h4, h5, h6⟩, h7⟩ := I
  have e : ((xs.take (j + 1)).filter fun x => !p x.1) = ((xs.take j).filter fun x => !p x.1) ++ [xs[j]] := by
    rw [List.take_succ_eq_append_getElem hj, List.filter_append]; simp [hp]
  have hg : Fr (fun k => k = g) wr' ((wr'.setCell ⟨g, i * 2, none⟩ (.string xs[j].1)).setCell ⟨g, i * 2 + 1, none⟩ (.slice A' xs[j].2.length c')) :=
    Fr.set (F := fun k => k = g) (Fr.set (F := fun k => k = g) (Fr.refl (fun k => k = g) wr') ⟨g, i * 2, none⟩ (.inl rfl) _) ⟨g, i * 2 + 1, none⟩ (.inl rfl) _
  have hw : Fr (fun k => k = g) w ((wr'.setCell ⟨g, i * 2, none⟩ (.string xs[j].1)).setCell ⟨g, i * 2 + 1, none⟩ (.slice A' xs[j].2.length c')) :=
    (h7.trans (f.mono fun _ _ f => f.elim)).trans (hg.mono fun _ _ e => .inl e)
  refine ⟨by rw [e]; simp; omega, by omega, ⟨_, blk_set (blk_set (f.blk h3 (fun f => f)) _ _) _ _, by simp; exact h4, ?_, fun t ht ht2 => ?_⟩, hw⟩
  · rw [store2_take (by omega), e]
    have hr : Row tItemO ((wr'.setCell ⟨g, i * 2, none⟩ (.string xs[j].1)).setCell ⟨g, i * 2 + 1, none⟩ (.slice A' xs[j].2.length c')) (fun k => F k ∧ k ≠ g) ((xs.take j).filter fun x => !p x.1) (cur.toList.take (i * 2)) :=
      h5.stab fun k hk hl => ((f.mono (G := fun k => k = g) fun _ _ f => f.elim).trans (hg.mono fun _ _ e => .inl e)).block k hl hk.2
    exact hr.append (Row.single (tItemO_mk (hb.fr hw fun k hk => hk.2)))
  · rw [Array.getElem?_setIfInBounds, Array.getElem?_setIfInBounds, if_neg (by omega), if_neg (by omega)]
    exact h6 t (by omega) ht2
end Go.Proofs.Ytkcppngopdiljaa
/- slices.DeleteFunc at items. -/
set_option linter.unusedVariables false
set_option linter.unusedSimpArgs false
namespace Go.Proofs.Ytkcppngopdiljaa
open Go.RowKit

theorem zero_item (w : World) : (zeroValue 65).run Try.prog w = .ok (.agg #[.string ⟨#[]⟩, .slice none 0 0]) w := by kernel_rfl

/-- clear, of what stands behind the first i. -/
theorem run_clear_items {w : World} {g cap n i : Nat} {cur : Array Value} (hb : w.heap[g]? = some (.cells cur 65 (0, 0))) (hs : cur.size = cap * 2) (hi : i < n) (hn : n ≤ cap) (ty : TypeId) :
    ∃ w', (Builtin.clear_ #[62] ty #[.slice (some ⟨g, i * 2, none⟩) (n - i) (cap - i)]).run Try.prog w = .ok (.tuple #[]) w' ∧ Fr (fun k => k = g) w w' ∧
      ∃ cur', w'.heap[g]? = some (.cells cur' 65 (0, 0)) ∧ cur'.size = cap * 2 ∧ cur'.toList.take (i * 2) = cur.toList.take (i * 2) := by
  obtain ⟨m, hm⟩ : ∃ m, n - i = m + 1 := ⟨n - i - 1, by omega⟩
  obtain ⟨zs, hzs⟩ : ∃ zs, (Builtin.zeroCells (Value.agg #[.string ⟨#[]⟩, .slice none 0 0]).cells (m + 1)).toList = zs := ⟨_, rfl⟩
  have hzl : zs.length = (m + 1) * 2 := by rw [← hzs]; simp [Builtin.zeroCells, Value.cells]
  have hz1 : ∀ v ∈ zs, v.oneCell' = true := by
    intro v hv
    rw [← hzs] at hv
    simp only [Builtin.zeroCells, Value.cells, Array.toList_map, List.mem_map, Array.mem_toList_iff, Array.mem_range] at hv
    obtain ⟨t, ht, rfl⟩ := hv
    have : t % (#[Value.string ⟨#[]⟩, .slice none 0 0] : Array Value).size = 0 ∨ t % (#[Value.string ⟨#[]⟩, .slice none 0 0] : Array Value).size = 1 := by
      show t % 2 = 0 ∨ t % 2 = 1
      omega
    rcases this with e | e <;> rw [e] <;> rfl
  have hst := run_storeCells_at (P := Try.prog) g (i * 2) 65 zs 0 cur w hb (by omega) hz1
  obtain ⟨nc, hnc⟩ : ∃ nc, (cur.toList.take (i * 2 + 0) ++ zs ++ cur.toList.drop (i * 2 + 0 + zs.length)).toArray = nc := ⟨_, rfl⟩
  rw [hnc] at hst
  refine ⟨w.setRow g nc, ?_, ?_, nc, setRow_heap w g cur nc _ _ hb, ?_, ?_⟩
  · rw [hm]
    simp only [Builtin.clear_, List.getElem?_toArray, List.getElem?_cons_zero, run_underlying Try.underlying62, Sem.run_bind, Sem.run_pure, Result.andThen_ok, zero_item, hzs, hst]
  · refine ⟨rfl, rfl, rfl, by simp [World.setRow], fun k hk hn => ?_⟩
    unfold World.setRow
    rw [Array.getElem?_modify, if_neg (fun e => hn e.symm)]
  · rw [← hnc]; simp; omega
  · rw [← hnc, List.append_assoc, Nat.add_zero]
    rw [List.take_append_of_le_length (by simp; omega), List.take_take, Nat.min_self]

theorem cut_lo_at {P : Program} (ty e : TypeId) (sz : Nat) (kl : IntKind) (ht : P.underlying ty = some (.slice e)) (hi : (P.info? e).map (·.size) = some sz) (g n c lo : Nat) (hlo : lo ≤ n) (hc : n ≤ c) (hne : lo < c) (W : World) :
    (Instr.slice ty (.slice (some ⟨g, 0, none⟩) n c) (some (.int kl (lo : Int))) none none).run P W = .ok (.slice (some ⟨g, lo * sz, none⟩) (n - lo) (c - lo)) W := by
  obtain ⟨i0, hi0, hsz⟩ := Option.map_eq_some_iff.1 hi
  have hel : P.elem ty = e := by simp [Program.elem, ht]
  have hu : P.underlying ty = some (.slice (P.elem ty)) := by rw [hel]; exact ht
  have hne' : ¬ c = lo := by omega
  rw [run_slice_l W ty _ n c hu kl (lo : Int) (Int.natCast_nonneg _) (by omega), hel]
  simp [sizeOf, typeInfo, hi0, hsz, sliced, Result.andThen, hne', add0]
theorem cut_hi_at {P : Program} (ty e : TypeId) (sz : Nat) (kh : IntKind) (ht : P.underlying ty = some (.slice e)) (hi : (P.info? e).map (·.size) = some sz) (A : Option Addr) (n c up : Nat) (hup : up ≤ n) (hc : n ≤ c) (W : World) :
    (Instr.slice ty (.slice A n c) none (some (.int kh (up : Int))) none).run P W = .ok (.slice A up c) W := by
  obtain ⟨i0, hi0, hsz⟩ := Option.map_eq_some_iff.1 hi
  have hel : P.elem ty = e := by simp [Program.elem, ht]
  have hu : P.underlying ty = some (.slice (P.elem ty)) := by rw [hel]; exact ht
  rw [run_slice_h W ty A n c hu kh (up : Int) (Int.natCast_nonneg _) (by omega), hel]
  have e : A.map (·.add (0 * sz)) = A := by cases A <;> simp [Addr.add]
  have e2 : A.map (·.add 0) = A := by simpa using e
  simp [sizeOf, typeInfo, hi0, hsz, sliced, Result.andThen, e2]

theorem DelInv.start {p : ByteArray → Bool} {w : World} {F : Nat → Prop} {g c : Nat} {cs : List Value} {xs : List Item} {k : Nat} (hk : k < xs.length) (hr : Row tItemO w (fun k => F k ∧ k ≠ g) xs cs) {cur : Array Value} (hb : w.heap[g]? = some (.cells cur 65 (0, 0))) (hs : cur.size = c * 2) (hn : xs.length ≤ c) (hcs : cur.toList.take (xs.length * 2) = cs)
    (hp : p xs[k].1 = true) (hpk : ∀ x ∈ xs.take k, p x.1 = false) : DelInv p w F g c cs xs k (k + 1) w := by
  have e1 : ((xs.take k).filter fun x => !p x.1) = xs.take k := List.filter_eq_self.2 fun x hx => by rw [hpk x hx]; rfl
  have e : ((xs.take (k + 1)).filter fun x => !p x.1) = xs.take k := by
    rw [List.take_succ_eq_append_getElem hk, List.filter_append, e1]; simp [hp]
  refine ⟨by rw [e]; simp; omega, by omega, ⟨cur, hb, hs, ?_, fun t _ ht => ?_⟩, Fr.refl _ _⟩
  · rw [e]
    have := hr.take k
    rw [← hcs, List.take_take, show tItemO.sz = 2 from rfl, Nat.min_eq_left (by omega)] at this
    exact this
  · rw [← hcs, List.getElem?_take, if_pos ht, Array.getElem?_toList]

theorem DelInv.ow {p : ByteArray → Bool} {w : World} {F : Nat → Prop} {g c : Nat} {cs : List Value} {xs : List Item} {i : Nat} {wr : World} (hF : F g) (hcm : c ≤ maxLen) (hn : xs.length ≤ c) (I : DelInv p w F g c cs xs i xs.length wr) :
    ∃ cur, wr.heap[g]? = some (.cells cur 65 (0, 0)) ∧ cur.size = c * 2 ∧ ∀ w' cur', Fr (fun k => k = g) wr w' → w'.heap[g]? = some (.cells cur' 65 (0, 0)) → cur'.size = c * 2 → cur'.toList.take (i * 2) = cur.toList.take (i * 2) →
      i = (xs.filter fun x => !p x.1).length ∧ Ow tItemO 65 w' F (.slice (some ⟨g, 0, none⟩) i c) (xs.filter fun x => !p x.1) ∧ Fr (fun k => k = g) w w' := by
  obtain ⟨h1, h2, ⟨cur, h3, h4, h5, h6⟩, h7⟩ := I
  rw [List.take_length] at h1 h5
  refine ⟨cur, h3, h4, fun w' cur' f hb hs ht => ⟨h1, ⟨cur.toList.take (i * 2), ⟨by have := h5.len; rw [this], .inr ⟨g, c, cur', by rw [← h1], Nat.zero_le _, hb, by omega, hcm, hs, by rw [← h1]; exact ht⟩⟩, ?_, fun k hk => ?_⟩, h7.trans (f.mono fun _ _ e => .inl e)⟩⟩
  · refine (h5.stab fun k hk hl => f.block k hl hk.2).mono fun k hk _ => ⟨hk.1, fun e => hk.2 ?_⟩
    simpa [Value.ownBlock] using e.symm
  · obtain rfl : g = k := by simpa [Value.ownBlock] using hk
    exact hF

set_option maxHeartbeats 2000000 in
set_option maxRecDepth 100000 in
theorem delete_ok (gf : Nat) (caps : Array Value) (p : ByteArray → Bool) {w : World} {F : Nat → Prop} {A : Option Addr} {c : Nat} {xs : List Item} (h : Ow tItemO 65 w F (.slice A xs.length c) xs) (hl : xs.length ≤ 1000000000)
    (he : ∀ args w, Sem.run Try.prog (callFunc gf args) w = .ok (.enter gf args) w)
    (hg : ∀ i (hi : i < xs.length) A' n c' w', Fr (fun k => (Value.slice A xs.length c).ownBlock = some k) w w' → Calls Try.prog gf (#[.agg #[.string xs[i].1, .slice A' n c']] ++ caps) w' fun e w'' => e = .returned (.bool (p xs[i].1)) ∧ Fr No w' w'') :
    Calls Try.prog 44 #[.slice A xs.length c, .func (.func gf) #[] caps] w fun e w' =>
      ∃ n, e = .returned (.slice A n c) ∧ Ow tItemO 65 w' F (.slice A n c) (xs.filter fun x => !p x.1) ∧ Fr (fun k => (Value.slice A xs.length c).ownBlock = some k) w w' := by
  have hix := index_item gf caps p (c := c) h.rd.2.2 hl he fun i hi A' n c' w' f => hg i hi A' n c' w' (f.mono fun _ _ f => f.elim)
  have H := Lib.hid (And.intro hix (And.intro h hg))
  have hli : (xs.length : Int) ≤ 1000000000 := by omega
  clear hix h hg
  go_enter Try.func44, Try.ntmps44
  go_wp2_with fail
  refine H.out.1.mono ?_
  rintro e1 w1 ⟨r, rfl, hr, hf1⟩
  rcases hr with ⟨rfl, hall⟩ | ⟨k0, hk0, rfl, hp0, hpk⟩
  · have HF := Lib.hid (And.intro hall hf1)
    clear hall hf1
    go_wp2_with fail
    go_ret
    have e : (xs.filter fun x => !p x.1) = xs := List.filter_eq_self.2 fun x hx => by rw [HF.out.1 x hx]; rfl
    exact ⟨_, rfl, by rw [e]; exact H.out.2.1.fr0 HF.out.2, HF.out.2.mono fun _ _ f => f.elim⟩
  · have ho := H.out.2.1.fr0 hf1
    obtain ⟨cs, ho1, ho2, ho3⟩ := ho
    rcases ho1.2 with ⟨_, h4⟩ | ⟨g, cap, cur, h4, _, hb, hnc, hcm, hsz, htk⟩
    · omega
    · injection h4 with h5 h6 h7
      subst h5
      subst h7
      have hown : (Value.slice (some ⟨g, 0, none⟩) xs.length c).ownBlock = some g := rfl
      have hrow : Row tItemO w1 (fun k => F k ∧ k ≠ g) xs cs := ho2.mono fun k hk _ => ⟨hk.1, fun e => hk.2 (by rw [hown, e])⟩
      have hcells : ∀ t, t < xs.length * 2 → cur[t]? = cs[t]? := fun t ht => by rw [← htk, List.getElem?_take, if_pos (show t < xs.length * tItemO.sz from ht), Array.getElem?_toList]
      have hst := DelInv.start hk0 hrow hb hsz hnc htk hp0 hpk
      have hcall := fun i hi A' n c' w' (f : Fr (fun k => k = g) w1 w') => H.out.2.2 i hi A' n c' w' ((hf1.mono fun _ _ f => f.elim).trans (f.mono fun k _ e => .inl (by rw [hown, e])))
      have HC := Lib.hid (And.intro hst (And.intro hcall (And.intro hrow (And.intro hcm (And.intro (ho3 g rfl) (And.intro hf1 hnc))))))
      have hci : (xs.length : Int) ≤ (c : Int) := by omega
      have hk0i : (k0 : Int) < (xs.length : Int) := by omega
      have hk00 : (0 : Int) ≤ (k0 : Int) := Int.natCast_nonneg _
      have hne : ((k0 : Int) == -1) = false := beq_eq_false_iff_ne.2 (by omega)
      clear hst hcall hrow hf1 ho1 ho2 ho3 htk hcells hpk hp0 hown hb hsz hcm hnc
      go_wp2_with fail
      go_loopw [5, 6] (fun i j wr => ∃ a b : Nat, b ≤ xs.length ∧ i = .int .i64 a ∧ j = .int .i64 b ∧ Hid (DelInv p w1 F g c cs xs a b wr)) (fun _ j _ => xs.length - (intOf j).toNat)
      case atStart => exact ⟨k0, k0 + 1, by omega, rfl, by go_num, HC.out.1⟩
      case round =>
        obtain ⟨i, j, hj, rfl, rfl, I⟩ := hrel
        have hij := I.out.le
        have hi0 : (0 : Int) ≤ (i : Int) := Int.natCast_nonneg _
        have hj0 : (0 : Int) ≤ (j : Int) := Int.natCast_nonneg _
        have hiji : (i : Int) < (j : Int) := by omega
        by_cases hlt : j < xs.length
        · have hlti : (j : Int) < (xs.length : Int) := by omega
          obtain ⟨cs2, hk2, hcs2⟩ := HC.out.2.2.1.get hlt
          obtain ⟨A', c', rfl, hbo⟩ := tItemO_open hk2
          obtain ⟨cur2, hb2, hs2, _, hrest⟩ := I.out.blk
          have x0 : wr.cell? ⟨g, j * 2, none⟩ = some (.string xs[j].1) := by rw [blk_cell hb2, hrest _ (by omega) (by omega)]; exact hcs2 0 (by decide)
          have x1 : wr.cell? ⟨g, j * 2 + 1, none⟩ = some (.slice A' xs[j].2.length c') := by rw [blk_cell hb2, hrest _ (by omega) (by omega)]; exact hcs2 1 (by decide)
          have z0 := blk_frozen hb2 (i * 2)
          have z1 := blk_frozen hb2 (i * 2 + 1)
          have y0 : ∃ u, wr.cell? ⟨g, i * 2, none⟩ = some u := ⟨cur2[i * 2]'(by have := HC.out.2.2.2.2.2.2; omega), by rw [blk_cell hb2]; exact Array.getElem?_eq_getElem _⟩
          have y1 : ∃ u, wr.cell? ⟨g, i * 2 + 1, none⟩ = some u := ⟨cur2[i * 2 + 1]'(by have := HC.out.2.2.2.2.2.2; omega), by rw [blk_cell hb2]; exact Array.getElem?_eq_getElem _⟩
          obtain ⟨u0, y0⟩ := y0
          obtain ⟨u1, y1⟩ := y1
          have hgl : g < wr.heap.size := blk_lt hb2
          obtain ⟨W, hW⟩ : ∃ W, W = wr.alloc (.cells #[.string xs[j].1, .slice A' xs[j].2.length c'] 65) := ⟨_, rfl⟩
          have hfW : Fr No wr W := by rw [hW]; exact (Fr.refl No wr).alloc _
          have hbW : W.heap[wr.heap.size]? = some (.cells #[.string xs[j].1, .slice A' xs[j].2.length c'] 65 (0, 0)) := by rw [hW]; exact heap_alloc_new wr _
          have b0 := blk_cell hbW 0
          have b1 := blk_cell hbW 1
          simp at b0 b1
          have hcall := HC.out.2.1 j hlt A' xs[j].2.length c' W (I.out.fr.trans (hfW.mono fun _ _ f => f.elim))
          have hskip := fun hp w' (f : Fr No W w') => I.out.skip hlt hp (hfW.trans (f.mono fun _ _ f => f.elim))
          have hkeep := fun hp w' (f : Fr No W w') => I.out.keep hlt HC.out.2.2.2.2.2.2 hp (hfW.trans (f.mono fun _ _ f => f.elim)) hbo
          obtain ⟨x, hx⟩ : ∃ x, xs[j] = x := ⟨_, rfl⟩
          simp only [hx] at x0 x1 hW b0 b1 hcall hskip hkeep hbW
          have HL := Lib.hid (And.intro hcall (And.intro hskip (And.intro hkeep (And.intro hfW hb2))))
          clear hcall hskip hkeep hx hbo hcs2 hk2 hbW hfW hb2 hrest
          go_wp2_with fail
          rw [← hW]
          clear hW
          refine HL.out.1.mono ?_
          rintro e2 w2 ⟨rfl, hf2⟩
          have b0 := hf2.cell b0 (fun f => f)
          have b1 := hf2.cell b1 (fun f => f)
          have f02 := HL.out.2.2.2.1.trans (hf2.mono fun _ _ f => f.elim)
          have y0 := f02.cell y0 (fun f => f)
          have y1 := f02.cell y1 (fun f => f)
          have hb2 := f02.blk HL.out.2.2.2.2 (fun f => f)
          have z0 := blk_frozen hb2 (i * 2)
          have z1 := blk_frozen hb2 (i * 2 + 1)
          have HF := Lib.hid hf2
          clear hf2 f02 hb2
          cases hp : p x.1 with
          | true =>
            go_wp2_with fail
            go_roundw
            case rel => exact ⟨i, j + 1, by omega, rfl, by go_num, HL.out.2.1 hp _ HF.out⟩
            case measure => simp [intOf]; omega
          | false =>
            go_wp2_with fail
            go_roundw
            case rel => exact ⟨i + 1, j + 1, by omega, by go_num, by go_num, HL.out.2.2.1 hp _ HF.out⟩
            case measure => simp [intOf]; omega
        · obtain rfl : j = xs.length := by omega
          obtain ⟨cur3, hb3, hs3, hfin⟩ := I.out.ow HC.out.2.2.2.2.1 HC.out.2.2.2.1 HC.out.2.2.2.2.2.2
          have hn := HC.out.2.2.2.2.2.2
          have hcut := fun W => cut_lo_at (P := Try.prog) 62 65 2 .i64 Try.underlying62 (by kernel_rfl) g xs.length c i (by omega) hn (by omega) W
          have hcut2 := fun W => cut_hi_at (P := Try.prog) 62 65 2 .i64 Try.underlying62 (by kernel_rfl) (some ⟨g, 0, none⟩) xs.length c i (by omega) hn W
          obtain ⟨w9, hclr, hf9, cur9, hb9, hs9, ht9⟩ := run_clear_items hb3 hs3 hij hn 0
          obtain ⟨hnn, hoo, hff⟩ := hfin w9 cur9 hf9 hb9 hs9 ht9
          have HZ := Lib.hid (And.intro hnn (And.intro hoo hff))
          have hclr2 : ∀ ty, (Builtin.clear_ #[62] ty #[.slice (some ⟨g, i * 2, none⟩) (xs.length - i) (c - i)]).run Try.prog wr = .ok (.tuple #[]) w9 := fun ty => hclr
          clear hfin hf9 hb9 hs9 ht9 hnn hoo hff hb3 hs3 hclr
          go_wp2_with fail
          go_ret
          exact ⟨i, rfl, HZ.out.2.1, HC.out.2.2.2.2.2.1.mono (fun _ _ f => f.elim) |>.trans (HZ.out.2.2.mono fun k _ e => .inl (by rw [e]; rfl))⟩
end Go.Proofs.Ytkcppngopdiljaa
/- slices.SortFunc at items, by their keys. -/
set_option linter.unusedVariables false
set_option linter.unusedSimpArgs false
namespace Go.Proofs.Ytkcppngopdiljaa
open Go.RowKit Go.Shelf Go.Sort

/-- Which one stands ahead. -/
def cmpKey (a b : ByteArray) : Int := if kl a b then -1 else if kl b a then 1 else 0
theorem compare_ok (a b : ByteArray) (w : World) : Calls Try.prog 49 #[.string a, .string b] w fun e w' => e = .returned (.int .i64 (cmpKey a b)) ∧ w' = w := by
  have hn : ∀ x, Calls Try.prog 69 #[.string x] w fun e w' => e = .returned (.bool false) ∧ w' = w := by
    intro x
    go_enter Try.func69, Try.ntmps69
    go_wp2
    go_ret
    exact ⟨by simp, rfl⟩
  have H := Lib.hid hn
  clear hn
  have hc : ∀ (u : Int), cmpKey a b = u ↔ u = cmpKey a b := fun u => eq_comm
  have HC := Lib.hid hc
  clear hc
  have hb : (a.toList == b.toList) = (!Op.bytesLess a.toList b.toList && !Op.bytesLess b.toList a.toList) := by
    rw [beq_toList]
    cases h1 : Op.bytesLess a.toList b.toList with
    | true => exact decide_eq_false (kl_ne h1)
    | false =>
      cases h2 : Op.bytesLess b.toList a.toList with
      | true => exact decide_eq_false fun e => kl_ne h2 e.symm
      | false => exact decide_eq_true (kl_tri h1 h2)
  cases h1 : Op.bytesLess a.toList b.toList <;> cases h2 : Op.bytesLess b.toList a.toList
  all_goals
    have h3 : cmpKey a b = if kl a b then -1 else if kl b a then 1 else 0 := rfl
    unfold kl at h3
    rw [h1, h2] at h3 hb
    have H3 := Lib.hid h3
    clear h3
    simp only [Bool.not_true, Bool.not_false, Bool.and_true, Bool.and_false, Bool.true_and, Bool.false_and] at hb
    go_enter Try.func49, Try.ntmps49
    go_wp2_with (go_at_call 69; refine (H.out _).mono ?_; rintro e w' ⟨rfl, rfl⟩)
    go_ret
    exact ⟨by rw [H3.out]; rfl, rfl⟩

/-- An item, and where its row lies. -/
abbrev ItemR := Item × (Option Addr × Nat × Nat)
def encR (x : ItemR) : List Value := [.string x.1.1, .slice x.2.1 x.2.2.1 x.2.2.2]
def cfR (x y : ItemR) : Int := cmpKey x.1.1 y.1.1
theorem ltR (x y : ItemR) : ltOf cfR x y = kl x.1.1 y.1.1 := by
  unfold ltOf cfR cmpKey
  cases h1 : kl x.1.1 y.1.1 <;> cases h2 : kl y.1.1 x.1.1 <;> simp
theorem swoR : SWO (ltOf cfR) where
  irrefl x := by rw [ltR, kl_irrefl]
  trans x y z h1 h2 := by rw [ltR] at *; exact kl_trans h1 h2
  ntrans x y z h1 h2 := by
    rw [ltR] at *
    cases h : kl x.1.1 z.1.1 with
    | false => rfl
    | true =>
      cases h3 : kl y.1.1 x.1.1 with
      | true => rw [kl_trans h3 h] at h2; cases h2
      | false => rw [kl_tri h1 h3] at h; rw [h] at h2; cases h2

set_option maxHeartbeats 1000000 in
theorem scan2_fn (x y : ItemR) (W : World) : Calls Try.prog 48 #[.agg (encR x).toArray, .agg (encR y).toArray] W fun e w' => e = .returned (.int .i64 (cfR x y)) ∧ ∃ q os', w' = grow (W.drewN q) os' := by
  have H := Lib.hid (compare_ok x.1.1 y.1.1)
  obtain ⟨⟨k1, r1⟩, A1, n1, c1⟩ := x
  obtain ⟨⟨k2, r2⟩, A2, n2, c2⟩ := y
  unfold cfR
  dsimp only at H ⊢
  generalize cmpKey k1 k2 = r at H ⊢
  change Calls _ _ #[.agg #[.string k1, .slice A1 n1 c1], .agg #[.string k2, .slice A2 n2 c2]] _ _
  go_enter Try.func48, Try.ntmps48
  go_wp2_with (go_at_call 49; refine (H.out _).mono ?_; rintro e w' ⟨rfl, rfl⟩)
  go_ret
  exact ⟨rfl, 0, _, by rw [alloc_eq_grow, alloc_eq_grow, grow_grow]; rfl⟩

theorem row_itemR {w : World} {F : Nat → Prop} {xs : List Item} {cs : List Value} (h : Row tItemO w F xs cs) : ∃ d : List ItemR, d.map Prod.fst = xs ∧ cs = d.flatMap encR ∧ ∀ x ∈ d, tItemO.K w F x.1 (encR x) := by
  induction xs generalizing cs with
  | nil => exact ⟨[], rfl, h, fun x hx => by cases hx⟩
  | cons x xs ih =>
    obtain ⟨c, e, rfl, h1, h2⟩ := h
    obtain ⟨d, h3, rfl, h4⟩ := ih h2
    obtain ⟨A, c', rfl, h5⟩ := tItemO_open h1
    refine ⟨(x, A, x.2.length, c') :: d, by rw [List.map_cons, h3], rfl, fun y hy => ?_⟩
    rcases List.mem_cons.1 hy with rfl | hy
    · exact h1
    · exact h4 y hy
theorem row_itemR_mk {w : World} {F : Nat → Prop} {d : List ItemR} (h : ∀ x ∈ d, tItemO.K w F x.1 (encR x)) : Row tItemO w F (d.map Prod.fst) (d.flatMap encR) := by
  induction d with
  | nil => rfl
  | cons x d ih => exact ⟨encR x, d.flatMap encR, rfl, h x (List.mem_cons_self ..), ih fun y hy => h y (List.mem_cons_of_mem _ hy)⟩
theorem flat_get (d : List ItemR) : ∀ t, t < d.length * 2 → (d.flatMap encR)[t]? = some ((encR d[t / 2]!)[t % 2]!) := by
  induction d with
  | nil => intro t ht; simp at ht
  | cons x d ih =>
    intro t ht
    rw [List.flatMap_cons]
    match t with
    | 0 => rfl
    | 1 => rfl
    | t + 2 =>
      have e1 : (t + 2) / 2 = t / 2 + 1 := by omega
      have e2 : (t + 2) % 2 = t % 2 := by omega
      rw [List.getElem?_append_right (by show 2 ≤ t + 2; omega), show t + 2 - (encR x).length = t from rfl, ih t (by simp at ht; omega), e1, e2]
      rfl
theorem flatK_eq (d : List ItemR) : (flatK encR 2 d.toArray).toList = d.flatMap encR := by
  apply List.ext_getElem?
  intro t
  by_cases ht : t < d.length * 2
  · rw [flat_get d t ht]
    have h1 : t < (flatK encR 2 d.toArray).size := by rw [size_flatK]; simpa using ht
    have := get_flatK encR 2 d.toArray t (by simpa using ht)
    rw [getElem!_pos _ t h1] at this
    rw [Array.getElem?_toList, Array.getElem?_eq_getElem h1, this]
    simp
  · have h2 : (d.flatMap encR).length = d.length * 2 := by
      clear ht
      induction d with
      | nil => rfl
      | cons x d ih => rw [List.flatMap_cons, List.length_append, ih, List.length_cons]; show 2 + _ = _; omega
    rw [List.getElem?_eq_none (by rw [Array.length_toList, size_flatK]; simp; omega), List.getElem?_eq_none (by omega)]

theorem mapBlock_at {w : World} {g : Nat} {cur : Array Value} {e : TypeId} {fr : Nat × Nat} (hb : w.heap[g]? = some (.cells cur e fr)) (f : Array Value → Array Value) : (mapBlock w g f).heap[g]? = some (.cells (f cur) e fr) := by
  unfold mapBlock
  simp only [Array.getElem?_modify, if_true, hb, Option.map_some]
  rfl
theorem mapBlock_far {w : World} {g k : Nat} (f : Array Value → Array Value) (h : k ≠ g) : (mapBlock w g f).heap[k]? = w.heap[k]? := by
  unfold mapBlock
  simp only [Array.getElem?_modify, if_neg (fun e : g = k => h e.symm)]
theorem putCells_take {d cur : Array Value} (h : d.size ≤ cur.size) : (putCells id 0 d cur).toList.take d.size = d.toList := by
  apply List.ext_getElem?
  intro j
  rw [List.getElem?_take, Array.getElem?_toList, Array.getElem?_toList]
  unfold putCells
  rw [Array.getElem?_mapIdx]
  split
  · rename_i hj
    rw [Array.getElem?_eq_getElem (show j < cur.size by omega), Option.map_some, if_pos ⟨Nat.zero_le _, by omega⟩, Array.getElem?_eq_getElem hj]
    simp [getElem!_pos d j hj]
  · rename_i hj
    rw [Array.getElem?_eq_none (by omega)]

theorem key_nodup_sorted {d : Array ItemR} {n : Nat} (hs : SortedIn (ltOf cfR) 0 n d) (hn : n = d.size) (hd : (d.toList.map fun x => x.1.1).Nodup) : Rising (d.toList.map fun x => x.1.1) := by
  unfold Rising
  rw [List.pairwise_iff_getElem]
  intro i j hi hj hij
  simp only [List.length_map, Array.length_toList] at hi hj
  have h1 := hs i j (Nat.zero_le _) hij (by omega)
  rw [ltR, getElem!_pos d i hi, getElem!_pos d j hj] at h1
  have h2 : d[i].1.1 ≠ d[j].1.1 := by
    have := List.pairwise_iff_getElem.1 hd i j (by simpa using hi) (by simpa using hj) hij
    simpa using this
  simp only [List.getElem_map, Array.getElem_toList]
  cases h3 : kl d[i].1.1 d[j].1.1 with
  | true => rfl
  | false => exact absurd (kl_tri h3 h1) h2

set_option maxHeartbeats 1000000 in
theorem sort_items {w : World} {F : Nat → Prop} {A : Option Addr} {c : Nat} {xs : List Item} (h : Ow tItemO 65 w F (.slice A xs.length c) xs) (hl : xs.length ≤ 1000000000) (hnd : (xs.map Prod.fst).Nodup) :
    Calls Try.prog 47 #[.slice A xs.length c, .func (.func 48) #[] #[]] w fun e w' =>
      e = .returned (.tuple #[]) ∧ ∃ ys, ys.Perm xs ∧ Rising (ys.map Prod.fst) ∧ Ow tItemO 65 w' F (.slice A xs.length c) ys ∧ Fr (fun k => (Value.slice A xs.length c).ownBlock = some k) w w' := by
  obtain ⟨cs, ho1, ho2, ho3⟩ := h
  rcases ho1.2 with ⟨h5, h4⟩ | ⟨g, cap, cur, h4, _, hb, hnc, hcm, hsz, htk⟩
  · obtain rfl := List.eq_nil_of_length_eq_zero h4
    refine (AnyF.slices_SortFunc_none (P := Try.prog) (ρ := Try.sortF47_ren) Try.sortF47 A c _ w).mono ?_
    rintro e w' ⟨rfl, rfl⟩
    exact ⟨rfl, [], .refl _, List.Pairwise.nil, ⟨cs, ho1, ho2, ho3⟩, Fr.refl _ _⟩
  · injection h4 with h5 h6 h7
    subst h5
    subst h7
    obtain ⟨d, hd1, rfl, hd2⟩ := row_itemR ho2
    have hdl : d.length = xs.length := by rw [← hd1]; simp
    have hds : d.toArray.size = xs.length := by simpa using hdl
    have hH : HoldsK encR 2 w g 0 d.toArray := by
      intro j hj
      rw [size_flatK, hds] at hj
      refine ⟨?_, by rw [Nat.zero_add]; exact blk_frozen hb j⟩
      rw [Nat.zero_add, blk_cell hb, id_eq]
      have e1 : (flatK encR 2 d.toArray).toList[j]? = (d.flatMap encR)[j]? := by rw [flatK_eq]
      rw [Array.getElem?_toList, Array.getElem?_eq_getElem (by rw [size_flatK, hds]; exact hj)] at e1
      rw [getElem!_pos _ j (by rw [size_flatK, hds]; exact hj), e1, ← htk, List.getElem?_take, if_pos (show j < xs.length * tItemO.sz from hj), Array.getElem?_toList]
    have hcon := AnyQ.slices_SortFunc Try.sortF47 2 Try.isAgg65 Try.sizeOf65 encR (fun _ => rfl) (fun x v hv => by simp [encR] at hv; rcases hv with rfl | rfl <;> rfl) cfR swoR 48 #[] g 0 c d.toArray w
      (enters_of Try.func48 (by kernel_rfl) rfl) (fun _ _ _ _ x y => scan2_fn x y _) hH (blk_lt hb) (by rw [hds]; omega)
    rw [hds] at hcon
    refine Calls.mono hcon ?_
    rintro e w' ⟨rfl, d', n, os, hp, hs, rfl⟩
    have hsz' : d'.size = xs.length := hp.1.trans hds
    have hperm : d'.toList.Perm d := by
      have := hp.2.2
      rw [Array.extract_eq_self_of_le (by omega), Array.extract_eq_self_of_le (by omega)] at this
      simpa using this
    have hf : Fr (fun k => (Value.slice (some ⟨g, 0, none⟩) xs.length c).ownBlock = some k) w (sortWorldK encR 2 w g 0 n d' os) := by
      refine ⟨rfl, rfl, rfl, by simp [sortWorldK, putRowK, putRow, mapBlock, grow, Sort.ahead], fun k hk hn => ?_⟩
      have hne : k ≠ g := fun e => hn (by rw [e]; rfl)
      unfold sortWorldK grow putRowK putRow
      simp only []
      rw [Array.getElem?_append_left (by simp [mapBlock, Sort.ahead]; exact hk), mapBlock_far _ hne]
      rfl
    have hb' : (sortWorldK encR 2 w g 0 n d' os).heap[g]? = some (.cells (putCells id 0 (flatK encR 2 d') cur) 65 (0, 0)) := by
      unfold sortWorldK grow putRowK putRow
      simp only []
      rw [Array.getElem?_append_left (by simp [mapBlock, Sort.ahead]; exact blk_lt hb)]
      exact mapBlock_at (w := Sort.ahead w n) hb _
    have hcur : (flatK encR 2 d').size ≤ cur.size := by rw [size_flatK, hsz', hsz]; exact Nat.mul_le_mul_right 2 hnc
    have hflat : (flatK encR 2 d').toList = d'.toList.flatMap encR := by have := flatK_eq d'.toList; simpa using this
    have hkeys : (d'.toList.map fun x => x.1.1) = (d'.toList.map Prod.fst).map Prod.fst := by rw [List.map_map]; rfl
    have hpx : (d'.toList.map Prod.fst).Perm xs := by have := hperm.map Prod.fst; rwa [hd1] at this
    refine ⟨rfl, d'.toList.map Prod.fst, hpx, ?_, ⟨d'.toList.flatMap encR, ⟨?_, .inr ⟨g, c, _, ?_, Nat.zero_le _, hb', ?_, hcm, ?_, ?_⟩⟩, ?_, ho3⟩, hf⟩
    · rw [← hkeys]
      refine key_nodup_sorted hs hsz'.symm ?_
      rw [hkeys]
      exact (hpx.map Prod.fst).nodup_iff.2 hnd
    · rw [← hflat, Array.length_toList, size_flatK]; simp [hsz']; rfl
    · simp [hsz']
    · simpa [hsz'] using hnc
    · unfold putCells; simpa using hsz
    · have := putCells_take hcur
      rw [size_flatK] at this
      rw [List.length_map, Array.length_toList]
      show List.take (d'.size * 2) _ = _
      rw [this, hflat]
    · refine row_itemR_mk fun x hx => ?_
      have h1 := hd2 x (hperm.subset hx)
      exact (tItemO.stab h1 fun k hk hl => hf.block k hl hk.2)
end Go.Proofs.Ytkcppngopdiljaa
/- 'for _, v := range m' of a map keyed by texts: what has come, in whichever order. -/
set_option linter.unusedVariables false
set_option linter.unusedSimpArgs false
namespace Go.Proofs.Ytkcppngopdiljaa
open Go.RowKit Go.MapKept
open Go.ChangeMaps (setBlock)

def encP (p : ByteArray × Value) : Value × Value := (Value.string p.1, p.2)
def encE (e : MapEntry) : Value × Value := (e.key, e.val)
theorem encP_inj {p q : ByteArray × Value} (h : encP p = encP q) : p = q := by
  unfold encP at h
  injection h with h1 h2
  injection h1 with h1
  exact Prod.ext h1 h2
theorem perm_of_map {α β : Type} {f : α → β} (hf : ∀ x y, f x = f y → x = y) {l m : List α} (h : (l.map f).Perm (m.map f)) : l.Perm m := by
  induction l generalizing m with
  | nil => rw [List.map_nil] at h; have := h.length_eq; simp at this; rw [List.eq_nil_of_length_eq_zero this.symm]
  | cons a l ih =>
    have ha : f a ∈ m.map f := h.subset (by simp)
    obtain ⟨b, hb, e⟩ := List.mem_map.1 ha
    obtain rfl := hf _ _ e
    obtain ⟨s, t, rfl⟩ := List.append_of_mem hb
    rw [List.map_append, List.map_cons, List.map_cons] at h
    have h2 := (h.trans List.perm_middle).cons_inv
    rw [← List.map_append] at h2
    exact (ih h2).cons _ |>.trans List.perm_middle.symm

/-- Under way: done has come (each once); r is the iterator's block. -/
def Ranging (w : World) (mb r : Nat) (l done : List (ByteArray × Value)) : Prop :=
  ∃ es clock since seen c0, w.heap[mb]? = some (.map es clock) ∧ Es es clock l ∧ w.heap[r]? = some (.mapIter (some mb) since seen c0) ∧ (∀ x ∈ es.toList, x.born < since) ∧ since ≤ c0 ∧ since ≤ clock ∧
    (done.map encP ++ (leftOf es seen).toList.map encE).Perm (l.map encP)

theorem Ranging.stab {w w' : World} {mb r : Nat} {l done : List (ByteArray × Value)} (h : Ranging w mb r l done) (h1 : w'.heap[mb]? = w.heap[mb]?) (h2 : w'.heap[r]? = w.heap[r]?) : Ranging w' mb r l done := by
  obtain ⟨es, clock, since, seen, c0, a1, a2, a3, a4⟩ := h
  exact ⟨es, clock, since, seen, c0, h1.trans a1, a2, h2.trans a3, a4⟩
theorem Ranging.lt {w : World} {mb r : Nat} {l done : List (ByteArray × Value)} (h : Ranging w mb r l done) : mb < w.heap.size ∧ r < w.heap.size ∧ r ≠ mb := by
  obtain ⟨es, clock, since, seen, c0, a1, a2, a3, a4⟩ := h
  refine ⟨blk_lt a1, blk_lt a3, ?_⟩
  rintro rfl
  rw [a1] at a3
  cases a3
theorem Ranging.len {w : World} {mb r : Nat} {l done : List (ByteArray × Value)} (h : Ranging w mb r l done) : done.length ≤ l.length := by
  obtain ⟨es, clock, since, seen, c0, a1, a2, a3, a4, a5, a6, a7⟩ := h
  have := a7.length_eq
  simp at this; omega
theorem Ranging.fr {S : Nat → Prop} {w w' : World} {mb r : Nat} {l done : List (ByteArray × Value)} (h : Ranging w mb r l done) (f : Fr S w w') (h1 : ¬ S mb) (h2 : ¬ S r) : Ranging w' mb r l done :=
  h.stab (f.block _ h.lt.1 h1) (f.block _ h.lt.2.1 h2)
theorem Ranging.mem {w : World} {mb r : Nat} {l done : List (ByteArray × Value)} (h : Ranging w mb r l done) : ∀ p ∈ done, p ∈ l := by
  obtain ⟨es, clock, since, seen, c0, a1, a2, a3, a4, a5, a6, a7⟩ := h
  intro p hp
  have : encP p ∈ l.map encP := a7.subset (List.mem_append_left _ (List.mem_map_of_mem hp))
  obtain ⟨q, hq, e⟩ := List.mem_map.1 this
  rwa [← encP_inj e]

theorem Ranging.left {w : World} {mb r : Nat} {l done : List (ByteArray × Value)} (h : Ranging w mb r l done) : w.rangeLeft mb r + done.length = l.length := by
  obtain ⟨es, clock, since, seen, c0, a1, a2, a3, a4, a5, a6, a7⟩ := h
  have := a7.length_eq
  simp only [World.rangeLeft, a1, a3]
  simp at this; omega

section
variable {P : Program} {w : World}
theorem run_range_mapIs {mb : Nat} {l : List (ByteArray × Value)} (h : MapIs w mb l) (t k e : TypeId) (ht : P.underlying t = some (.map k e)) :
    ∃ w', (Instr.range t (.map (some mb))).run P w = .ok (.pointer (some ⟨w.heap.size, 0, none⟩)) w' ∧ Ranging w' mb w.heap.size l [] ∧ Fr No w w' ∧ w'.heap.size = w.heap.size + 1 := by
  obtain ⟨es, clock, hb, he⟩ := h
  refine ⟨_, run_range_map w t k e mb es clock ht hb, ⟨es, clock, clock, #[], clock, (Below.heap_alloc _ _ mb (blk_lt hb)).trans hb, he, heap_alloc_new w _, he.st.1, Nat.le_refl _, Nat.le_refl _, ?_⟩, (Fr.refl No w).alloc _, by simp⟩
  have : (leftOf es #[]).toList = es.toList := by simp [leftOf]
  rw [this, List.map_nil, List.nil_append]
  have e := he.ents
  rw [show es.toList.map encE = l.map encP from e]

theorem filter_push {es : List MapEntry} {seen : Array Nat} {e : MapEntry} (hn : (es.map (·.born)).Nodup) (he : e ∈ es) (hs : seen.contains e.born = false) :
    (es.filter fun x => !seen.contains x.born).Perm (e :: es.filter fun x => !(seen.push e.born).contains x.born) := by
  induction es with
  | nil => cases he
  | cons x es ih =>
    rw [List.map_cons, List.nodup_cons] at hn
    rcases List.mem_cons.1 he with rfl | he
    · have e1 : (es.filter fun x => !(seen.push e.born).contains x.born) = es.filter fun x => !seen.contains x.born := by
        refine List.filter_congr fun y hy => ?_
        have : ¬ y.born = e.born := fun h => hn.1 (h ▸ List.mem_map_of_mem hy)
        have h2 : ¬ e.born = y.born := fun h => this h.symm
        simp [Array.mem_push, h2, this]
      rw [List.filter_cons, List.filter_cons, e1]
      have hs2 : ¬ e.born ∈ seen := by simpa using hs
      simp [hs2]
    · have := ih hn.2 he
      have hne : ¬ x.born = e.born := fun h => hn.1 (h ▸ List.mem_map_of_mem he)
      have hne2 : ¬ e.born = x.born := fun h => hne h.symm
      rw [List.filter_cons, List.filter_cons]
      have e2 : (seen.push e.born).contains x.born = seen.contains x.born := by
        rw [Bool.eq_iff_iff]; simp [Array.mem_push, hne, hne2]
      rw [e2]
      cases seen.contains x.born
      · simp only [Bool.not_false, if_true]
        exact (this.cons x).trans (List.Perm.swap _ _ _)
      · simpa using this

/-- One step: it is over, or one more has come. -/
theorem Ranging.next {mb r : Nat} {l done : List (ByteArray × Value)} (h : Ranging w mb r l done) (ty : TypeId) :
    (done.Perm l ∧ (Instr.next (.pointer (some ⟨r, 0, none⟩)) false ty).run P w = .ok (.tuple #[.bool false]) w) ∨
    ∃ p w', p ∈ l ∧ (Instr.next (.pointer (some ⟨r, 0, none⟩)) false ty).run P w = .ok (.tuple #[.bool true, .string p.1, p.2]) w' ∧ Ranging w' mb r l (done ++ [p]) ∧ Fr (fun i => i = r) w w' ∧ w'.heap.size = w.heap.size ∧
      (Instr.entry (.pointer (some ⟨r, 0, none⟩))).run P w' = .ok (.tuple #[.string p.1, p.2]) w' := by
  have hne := h.lt.2.2
  obtain ⟨es, clock, since, seen, c0, a1, a2, a3, a4, a5, a6, a7⟩ := h
  rcases run_next_at (P := P) w ty r mb since c0 seen es clock a3 a1 a4 a5 with ⟨h0, hrun⟩ | ⟨e, he, w1, hal, hrun⟩
  · refine .inl ⟨?_, hrun⟩
    have : (leftOf es seen).toList = [] := List.eq_nil_of_length_eq_zero (by simpa using h0)
    rw [this, List.map_nil, List.append_nil] at a7
    exact perm_of_map (fun _ _ => encP_inj) a7
  · obtain ⟨hem, hes⟩ := mem_left he
    have hk : (e.key, e.val) ∈ l.map encP := by
      have := a2.ents
      rw [show l.map encP = es.toList.map encE from this.symm]
      exact List.mem_map_of_mem (f := encE) hem
    obtain ⟨p, hp, hpe⟩ := List.mem_map.1 hk
    have e1 : e.key = .string p.1 := by have := congrArg Prod.fst hpe; exact this.symm
    have e2 : e.val = p.2 := by have := congrArg Prod.snd hpe; exact this.symm
    have hr1 : w1.heap[r]? = some (.mapIter (some mb) since seen c0) := by rcases hal with rfl | rfl <;> exact a3
    have hb1 : w1.heap[mb]? = some (.map es clock) := by rcases hal with rfl | rfl <;> exact a1
    have hset := heap_set (o' := .mapIter (some mb) since (seen.push e.born) clock) hr1
    have hb' : (setBlock w1 r (.mapIter (some mb) since (seen.push e.born) clock)).heap[mb]? = some (.map es clock) := (hset.2 mb (fun e1 => hne e1.symm)).trans hb1
    have hent := run_entry_at (P := P) _ r mb since seen es clock e hset.1 hb' hem ((stamped_iff es clock).1 a2.st).2.1
    rw [e1, e2] at hent hrun
    refine .inr ⟨p, _, hp, hrun, ⟨es, clock, since, seen.push e.born, clock, hb', a2, hset.1, a4, a6, a6, ?_⟩, ?_, ?_, hent⟩
    · have hf := filter_push ((stamped_iff es clock).1 a2.st).2.1 hem (by simpa using hes)
      have hl : (leftOf es seen).toList = es.toList.filter fun x => !seen.contains x.born := by unfold leftOf; rw [Array.toList_filter]
      have hl' : (leftOf es (seen.push e.born)).toList = es.toList.filter fun x => !(seen.push e.born).contains x.born := by unfold leftOf; rw [Array.toList_filter]
      rw [hl] at a7
      rw [hl']
      refine List.Perm.trans ?_ a7
      have hpE : encP p = encE e := hpe
      rw [List.map_append, List.map_cons, List.map_nil, hpE, List.append_assoc]
      refine List.Perm.append_left _ ?_
      exact ((hf.map encE).symm)
    · rcases hal with rfl | rfl <;> exact ⟨rfl, rfl, rfl, by simp [setBlock], fun i _ hi => hset.2 i hi⟩
    · rcases hal with rfl | rfl <;> simp [setBlock]

variable {ops : Array Oper} {rest : List Oper} {o : Oper} {a : Act} {Q : Exit → Act → World → Prop}
theorem wpList_mapIs_range (hg : o.guard = none) (m : Operand) (t : TypeId) (hop : o.op = Op.range t m) (k e : TypeId) (ht : P.underlying t = some (.map k e)) {mb : Nat} {l : List (ByteArray × Value)}
    (hm : a.eval m = .map (some mb)) (h : MapIs w mb l)
    (hK : ∀ w', Ranging w' mb w.heap.size l [] → Fr No w w' → w'.heap.size = w.heap.size + 1 → wpList P ops Q rest (a.put o.dst (.pointer (some ⟨w.heap.size, 0, none⟩))) w') :
    wpList P ops Q (o :: rest) a w := by
  refine wpList_plain hg fun K' hK' => ?_
  obtain ⟨w', hrun, r1, r2, r3⟩ := run_range_mapIs (P := P) h t k e ht
  unfold Oper.wp
  simp [execOp, hop, hm, hrun, Result.andThen]
  exact hK' _ _ (hK w' r1 r2 r3)
theorem wpList_mapIs_next (hg : o.guard = none) (it : Operand) (hop : o.op = Op.next it false) {mb r : Nat} {l done : List (ByteArray × Value)} (hit : a.eval it = .pointer (some ⟨r, 0, none⟩)) (h : Ranging w mb r l done)
    (hDone : done.Perm l → wpList P ops Q rest (a.put o.dst (.tuple #[.bool false])) w)
    (hMore : ∀ p w', p ∈ l → Ranging w' mb r l (done ++ [p]) → Fr (fun i => i = r) w w' → w'.heap.size = w.heap.size → (Instr.entry (.pointer (some ⟨r, 0, none⟩))).run P w' = .ok (.tuple #[.string p.1, p.2]) w' → wpList P ops Q rest (a.put o.dst (.tuple #[.bool true, .string p.1, p.2])) w') :
    wpList P ops Q (o :: rest) a w := by
  refine wpList_plain hg fun K' hK' => ?_
  unfold Oper.wp
  rcases h.next (P := P) o.type with ⟨hp, hrun⟩ | ⟨p, w', hp, hrun, h1, h2, h3, h4⟩
  · simp [execOp, hop, hit, hrun, Result.andThen]
    exact hK' _ _ (hDone hp)
  · simp [execOp, hop, hit, hrun, Result.andThen]
    exact hK' _ _ (hMore p w' hp h1 h2 h3 h4)
end
end Go.Proofs.Ytkcppngopdiljaa
/- Layer 14 (tx): Scan. -/
set_option linter.unusedVariables false
set_option linter.unusedSimpArgs false
namespace Go.Proofs.Ytkcppngopdiljaa
open Go.RowKit

theorem tx_scan_nil (s : Option Addr) (lo hi : ByteArray) (most : Int) (w : World) : Calls Try.prog 26 #[.pointer none, .pointer s, .string lo, .string hi, .int .i64 most] w fun e w' => e = .returned (.slice none 0 0) ∧ Fr No w w' := by
  go_enter Try.func26, Try.ntmps26
  go_wp2
  go_ret
  exact ⟨rfl, (Fr.refl No w).alloc _⟩
theorem tx_scan_neg (xb : Nat) (s : Option Addr) (lo hi : ByteArray) (most : Int) (hm : most < 0) (w : World) : Calls Try.prog 26 #[.pointer (some ⟨xb, 0, none⟩), .pointer s, .string lo, .string hi, .int .i64 most] w fun e w' => e = .returned (.slice none 0 0) ∧ Fr No w w' := by
  go_enter Try.func26, Try.ntmps26
  go_wp2
  go_ret
  exact ⟨rfl, (Fr.refl No w).alloc _⟩

/-- Of which keys it wrote something itself. -/
def ownP (ws : List Wr) (k : ByteArray) : Bool := (wfind k ws).isSome

set_option maxHeartbeats 1000000 in
set_option maxRecDepth 100000 in
theorem scan1_fn {w : World} {F : Nat → Prop} {xb bx : Nat} {base : Int} {ws : List Wr} (h : TxAt w F xb base ws) (hb : w.cell? ⟨bx, 0, none⟩ = some (.pointer (some ⟨xb, 0, none⟩))) (k : ByteArray) (A : Option Addr) (n c : Nat) :
    Calls Try.prog 46 (#[.agg #[.string k, .slice A n c]] ++ #[.pointer (some ⟨bx, 0, none⟩)]) w fun e w' => e = .returned (.bool (ownP ws k)) ∧ Fr No w w' := by
  obtain ⟨W, hW⟩ : ∃ W, W = w.alloc (.cells #[.string k, .slice A n c] 65) := ⟨_, rfl⟩
  have hfW : Fr No w W := by rw [hW]; exact (Fr.refl No w).alloc _
  have hbW : W.heap[w.heap.size]? = some (.cells #[.string k, .slice A n c] 65 (0, 0)) := by rw [hW]; exact heap_alloc_new w _
  have hbx := fun o => cell_alloc hb o
  have H := Lib.hid (And.intro (tx_own k (h.fr0 hfW)) hfW)
  clear h hb hfW hbW
  change Calls _ _ #[.agg #[.string k, .slice A n c], .pointer (some ⟨bx, 0, none⟩)] _ _
  go_enter Try.func46, Try.ntmps46
  go_wp2_with fail
  rw [← hW]
  clear hW
  refine H.out.1.mono ?_
  rintro e1 w1 ⟨⟨k1, A1, n1, c1, g1, rfl, _⟩, hf1⟩
  have HF := Lib.hid (H.out.2.trans (hf1.mono fun _ _ f => f.elim))
  clear hf1
  go_wp2_with fail
  go_ret
  exact ⟨rfl, HF.out.alloc _⟩

theorem Ow.takeN {α : Type} {t : Ty α} {e : TypeId} {w : World} {F : Nat → Prop} {A : Option Addr} {n c : Nat} {xs : List α} (h : Ow t e w F (.slice A n c) xs) {k : Nat} (hk : k ≤ n) : Ow t e w F (.slice A k c) (xs.take k) := by
  obtain rfl := h.rd.1
  obtain ⟨cs, h1, h2, h3⟩ := h
  rcases h1.2 with ⟨h5, h4⟩ | ⟨g, cap, cur, h4, h5, hb, hnc, hcm, hsz, htk⟩
  · obtain rfl := List.eq_nil_of_length_eq_zero h4
    obtain rfl : k = 0 := by simpa using hk
    exact ⟨cs, h1, by simpa using h2, h3⟩
  · injection h4 with h6 h7 h8
    subst h6
    subst h8
    refine ⟨cs.take (k * t.sz), ⟨?_, .inr ⟨g, c, cur, by rw [List.length_take, Nat.min_eq_left hk], h5, hb, ?_, hcm, hsz, ?_⟩⟩, h2.take k, h3⟩
    · rw [List.length_take, h1.1, List.length_take, Nat.min_eq_left hk, Nat.min_eq_left (Nat.mul_le_mul_right _ hk)]
    · rw [List.length_take]; omega
    · rw [← htk, List.take_take, List.length_take, Nat.min_eq_left hk, Nat.min_eq_left (Nat.mul_le_mul_right _ hk)]

theorem TxHeld.entry {w : World} {F : Nat → Prop} {ws : List Wr} {l : List (ByteArray × Value)} (h : TxHeld w F l ws) (hn : (l.map Prod.fst).Nodup) {p : ByteArray × Value} (hp : p ∈ l) : ∃ x, wfind p.1 ws = some x ∧ x.key = p.1 ∧ WrIs w F p.2 x := by
  have hl := look_of_mem hn (show (p.1, p.2) ∈ l from hp)
  cases hf : wfind p.1 ws with
  | none => rw [h.none_ _ hf] at hl; cases hl
  | some x =>
    obtain ⟨v, hv, hw⟩ := h.some_ _ _ hf
    rw [hl] at hv
    injection hv with hv
    subst hv
    exact ⟨x, rfl, (wfind_some hf).2, hw⟩

/-- Of one entry: what comes of it. -/
def selK (ws : List Wr) (lo hi : ByteArray) (p : ByteArray × Value) : Option Item := (wfind p.1 ws).bind (wsel lo hi)
theorem selK_key {ws : List Wr} {lo hi : ByteArray} {p : ByteArray × Value} {q : Item} (h : selK ws lo hi p = some q) : q.1 = p.1 ∧ (wfind p.1 ws).isSome = true := by
  unfold selK at h
  cases hf : wfind p.1 ws with
  | none => rw [hf] at h; cases h
  | some x =>
    rw [hf] at h
    obtain ⟨_, _, rfl⟩ := wsel_some.1 h
    exact ⟨(wfind_some hf).2, rfl⟩
theorem selK_of {ws : List Wr} {lo hi key : ByteArray} {row : Bs} {gone : Bool} {v : Value} (hx : wfind key ws = some ⟨key, row, gone⟩) : selK ws lo hi (key, v) = if !gone && inB lo hi key then some (key, row) else none := by
  unfold selK
  rw [show (key, v).1 = key from rfl, hx]
  rfl
theorem selK_skip {ws : List Wr} {lo hi key : ByteArray} {row : Bs} {gone : Bool} {v : Value} (hx : wfind key ws = some ⟨key, row, gone⟩) (h : gone = true ∨ inB lo hi key = false) : selK ws lo hi (key, v) = none := by
  rw [selK_of hx]
  rcases h with h | h <;> rw [h] <;> simp
theorem selK_in {ws : List Wr} {lo hi key : ByteArray} {row : Bs} {v : Value} (hx : wfind key ws = some ⟨key, row, false⟩) (h : inB lo hi key = true) : selK ws lo hi (key, v) = some (key, row) := by
  rw [selK_of hx, h]; rfl
theorem inB_lo {lo hi key : ByteArray} (h : Op.bytesLess key.toList lo.toList = true) : inB lo hi key = false := by
  unfold inB kl; rw [h]; rfl
theorem inB_hi {lo hi key : ByteArray} (h1 : hi.toList.isEmpty = false) (h2 : Op.bytesLess key.toList hi.toList = false) : inB lo hi key = false := by
  unfold inB kl
  rw [size_isEmpty] at h1
  rw [h2, h1]; simp
theorem inB_yes {lo hi key : ByteArray} (h : ¬ Op.bytesLess key.toList lo.toList = true) (h2 : hi.toList.isEmpty = true ∨ Op.bytesLess key.toList hi.toList = true) : inB lo hi key = true := by
  unfold inB kl
  rw [size_isEmpty] at h2
  rcases h2 with h2 | h2 <;> rw [h2] <;> simpa using h
theorem mem_selK {w : World} {F : Nat → Prop} {ws : List Wr} {lo hi : ByteArray} {l done : List (ByteArray × Value)} (h : TxHeld w F l ws) (hp : done.Perm l) (p : Item) : p ∈ done.filterMap (selK ws lo hi) ↔ p ∈ ws.filterMap (wsel lo hi) := by
  rw [mem_wsel h.rising, List.mem_filterMap]
  constructor
  · rintro ⟨q, hq, hs⟩
    have hk := selK_key hs
    unfold selK at hs
    cases hf : wfind q.1 ws with
    | none => rw [hf] at hs; cases hs
    | some x =>
      rw [hf] at hs
      obtain ⟨h1, h2, rfl⟩ := wsel_some.1 hs
      have e := (wfind_some hf).2
      exact ⟨⟨x, by rw [e]; exact hf, h1, rfl⟩, h2⟩
  · rintro ⟨⟨x, hf, h1, h2⟩, h3⟩
    obtain ⟨v, hv, _⟩ := h.some_ _ _ hf
    refine ⟨(p.1, v), hp.symm.subset (look_mem hv), ?_⟩
    unfold selK
    rw [hf]
    refine wsel_some.2 ⟨h1, by rw [(wfind_some hf).2]; exact h3, ?_⟩
    rw [(wfind_some hf).2, h2]
theorem selK_nodup {ws : List Wr} {lo hi : ByteArray} {l done : List (ByteArray × Value)} (hn : (l.map Prod.fst).Nodup) (hp : done.Perm l) {L : List Item} (hL : (L.map Prod.fst).Nodup) (hf : ∀ x ∈ L, (wfind x.1 ws).isSome = false) : ((L ++ done.filterMap (selK ws lo hi)).map Prod.fst).Nodup := by
  have hd : (done.map Prod.fst).Nodup := (hp.map Prod.fst).nodup_iff.2 hn
  rw [List.map_append, List.nodup_append]
  refine ⟨hL, ?_, ?_⟩
  · unfold List.Nodup at *
    rw [List.pairwise_map] at *
    rw [List.pairwise_filterMap]
    exact hd.imp fun hab p hp q hq => by rw [(selK_key hp).1, (selK_key hq).1]; exact hab
  · intro a ha b hb
    obtain ⟨x, hx, rfl⟩ := List.mem_map.1 ha
    obtain ⟨y, hy, rfl⟩ := List.mem_map.1 hb
    obtain ⟨q, _, hq⟩ := List.mem_filterMap.1 hy
    intro e
    have h1 := hf x hx
    rw [e, (selK_key hq).1, (selK_key hq).2] at h1
    cases h1

theorem scan_free {ws : List Wr} {s : Sto} {base : Int} {lo hi : ByteArray} {N : Int} {L0 : List Item} (hs : Rising (s.kc.map Prod.fst)) (hL0 : (s.scan base lo hi N).filter (fun x => !ownP ws x.1) = L0) : (L0.map Prod.fst).Nodup ∧ ∀ x ∈ L0, (wfind x.1 ws).isSome = false := by
  subst hL0
  refine ⟨?_, fun x hx => ?_⟩
  · unfold Sto.scan
    exact ((List.filter_sublist.trans (List.take_sublist _ _)).map _).nodup (all_rising hs).nodup
  · have := (List.mem_filter.1 hx).2
    unfold ownP at this
    simpa using this
theorem scan_fin {w : World} {F : Nat → Prop} {ws : List Wr} {s : Sto} {m : Nat} {base : Int} {lo hi : ByteArray} {most K : Int} {l done : List (ByteArray × Value)} {ys L0 : List Item} (h : TxHeld w F l ws) (hsr : Rising (s.kc.map Prod.fst)) (hs : s.Small m) (hm : m ≤ 100000000) (h0 : 0 ≤ most)
    (hK : K = if (1099511627776 : Int) < most then 1099511627776 else most) (hL0 : (s.scan base lo hi (K + (ws.length : Int))).filter (fun x => !ownP ws x.1) = L0) (hp : done.Perm l) (hy : ys.Perm (L0 ++ done.filterMap (selK ws lo hi))) (hr : Rising (ys.map Prod.fst)) :
    ys.take most.toNat = xscan ws s base lo hi most := by
  refine xscan_of (N := (K + (ws.length : Int)).toNat) h.rising hsr ?_ hr fun p => ?_
  · have := hs.keys
    rw [hK]
    split
    · right; omega
    · left; omega
  · rw [hy.mem_iff, List.mem_append, mem_selK h hp, ← hL0]
    have e : (fun x : Item => !ownP ws x.1) = free ws := by
      funext x
      unfold ownP free
      cases wfind x.1 ws <;> rfl
    rw [e]
    rfl

/-- The loop over what it wrote. -/
structure ScInv (W : World) (mb r : Nat) (l : List (ByteArray × Value)) (ws : List Wr) (lo hi : ByteArray) (L0 : List Item) (done : List (ByteArray × Value)) (n : Nat) (v : Value) (wr : World) : Prop where
  rng : Ranging wr mb r l done
  len : n = (L0 ++ done.filterMap (selK ws lo hi)).length
  own : Ow tItemO 65 wr (fun i => W.heap.size ≤ i ∧ i ≠ r) v (L0 ++ done.filterMap (selK ws lo hi))
  fr : Fr (fun i => W.heap.size ≤ i) W wr
section
variable {W : World} {mb r : Nat} {l : List (ByteArray × Value)} {ws : List Wr} {lo hi : ByteArray} {L0 : List Item} {done : List (ByteArray × Value)} {n : Nat} {v : Value} {wr w1 w2 w3 : World} {p : ByteArray × Value}
theorem ScInv.skip (I : ScInv W mb r l ws lo hi L0 done n v wr) (hr : W.heap.size ≤ r) (hg : Ranging w1 mb r l (done ++ [p])) (f1 : Fr (fun i => i = r) wr w1) (hs : selK ws lo hi p = none) (f2 : Fr No w1 w2) : ScInv W mb r l ws lo hi L0 (done ++ [p]) n v w2 := by
  have e : (done ++ [p]).filterMap (selK ws lo hi) = done.filterMap (selK ws lo hi) := by rw [List.filterMap_append]; simp [hs]
  have f12 : Fr (fun i => i = r) wr w2 := f1.trans (f2.mono fun _ _ f => f.elim)
  exact ⟨hg.fr f2 (fun f => f) (fun f => f), by rw [e]; exact I.len, by rw [e]; exact I.own.fr f12 fun k hk => hk.2, I.fr.trans (f12.mono fun k _ e => .inl (by rw [e]; exact hr))⟩
theorem ScInv.add (I : ScInv W mb r l ws lo hi L0 done n v wr) (hmb : mb < W.heap.size) (hr : W.heap.size ≤ r) (hg : Ranging w1 mb r l (done ++ [p])) (f1 : Fr (fun i => i = r) wr w1) (h1 : w1.heap.size = wr.heap.size) {q : Item} (hs : selK ws lo hi p = some q) (f2 : Fr No w1 w2) {A3 : Option Addr} {n3 c3 : Nat} (hn : n3 = n + 1)
    (ho : Ow tItemO 65 w3 (fun k => (W.heap.size ≤ k ∧ k ≠ r) ∨ w2.heap.size ≤ k) (.slice A3 n3 c3) ((L0 ++ done.filterMap (selK ws lo hi)) ++ [q])) (hgr : w2.grownBy w3 v.ownBlock) : ScInv W mb r l ws lo hi L0 (done ++ [p]) (n + 1) (.slice A3 (n + 1) c3) w3 := by
  have e : (done ++ [p]).filterMap (selK ws lo hi) = done.filterMap (selK ws lo hi) ++ [q] := by rw [List.filterMap_append]; simp [hs]
  have f12 : Fr (fun i => i = r) wr w2 := f1.trans (f2.mono fun _ _ f => f.elim)
  have hrl := hg.lt
  have hsz := f2.size
  have hne : ∀ k, v.ownBlock = some k → W.heap.size ≤ k ∧ k ≠ r := fun k hk => (I.own.own hk).1
  have f23 : Fr (fun i => v.ownBlock = some i) w2 w3 := (Fr.refl _ w2).grown hgr fun k hk => .inl hk
  subst hn
  refine ⟨(hg.fr f2 (fun f => f) (fun f => f)).fr f23 (fun h => ?_) (fun h => (hne _ h).2 rfl), by rw [e, ← List.append_assoc]; simp [I.len]; omega, ?_, (I.fr.trans (f12.mono fun k _ e => .inl (by rw [e]; exact hr))).trans (f23.mono fun k _ h => .inl (hne k h).1)⟩
  · have := (hne _ h).1
    omega
  · rw [e, ← List.append_assoc]
    refine ho.mono fun k hk hl => ?_
    rcases hk with hk | hk
    · exact hk
    · have := I.fr.size
      exact ⟨by omega, by omega⟩
end

theorem scan_len {s : Sto} {m : Nat} (hs : s.Small m) (a : Int) (lo hi : ByteArray) (most : Int) : (s.scan a lo hi most).length ≤ m := by
  unfold Sto.scan
  rw [Sto.all_eq]
  exact Nat.le_trans (List.length_take_le' _ _) (Nat.le_trans (List.length_filterMap_le _ _) hs.keys)

end Go.Proofs.Ytkcppngopdiljaa
