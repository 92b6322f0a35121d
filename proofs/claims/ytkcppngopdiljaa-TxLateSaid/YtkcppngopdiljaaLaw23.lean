/- Laws of layer 14 (tx): written, the walk. -/
import Derived.Test.YtkcppngopdiljaaLaw22
set_option linter.unusedVariables false
set_option linter.unusedSimpArgs false
namespace Go.Proofs.Ytkcppngopdiljaa
open Go.RowKit

/-- Behind the program's write: the document's, and its laying into the box. -/
theorem written_main {w0 w4 : World} {FX FM RW : Nat → Prop} {xb bx : Nat} {base : Int} {ws : List Wr} {x : Wr} {A' : Option Addr} {c' : Nat} (hT : TxAt w4 FX xb base (wwrite ws x).1) (hB : TxBox w4 FM bx base ws) (hX : ∀ i, FX i → w0.heap.size ≤ i ∧ ¬ FM i ∧ i ≠ bx ∧ ¬ RW i ∧ i < w4.heap.size) (hM : ∀ i, FM i → w0.heap.size ≤ i ∧ i ≠ bx ∧ i < w4.heap.size)
    (hr : Rd Ty.u8 w4 RW A' x.row) (hc : x.row.length ≤ c') (hRW : ∀ i, RW i → w0.heap.size ≤ i ∧ i ≠ bx ∧ i < w4.heap.size) (hf : Fr No w0 w4) (hl : w0.heap.size ≤ bx) (hn : ws.length ≤ 20) (hri : Rising (ws.map Wr.key)) :
    ∃ A c, w4.heap[bx]? = some (.cells #[.int .i64 base, .slice A ws.length c] 34 (0, 0)) ∧
      Calls Try.prog 34 #[.agg #[.int .i64 base, .slice A ws.length c], .agg #[.string x.key, .slice A' x.row.length c', .bool x.gone]] w4 fun e w6 => ∃ A1 c1, e = .returned (.tuple #[.agg #[.int .i64 base, .slice A1 (wwrite ws x).1.length c1], .int .i64 (wwrite ws x).2]) ∧ Fr No w4 w6 ∧
        ∀ o, Both w0 (((w6.setCell ⟨bx, 0, none⟩ (.int .i64 base)).setCell ⟨bx, 1, none⟩ (.slice A1 (wwrite ws x).1.length c1)).alloc o) xb bx base (wwrite ws x).1 := by
  obtain ⟨A, c, h1, h2, h3⟩ := hB.box
  refine ⟨A, c, h1, (ref_write (x := x) ⟨A, c, rfl, h2, h3⟩ hn hri hr hc).mono ?_⟩
  rintro e w6 ⟨u, rfl, ⟨A1, c1, rfl, h5, h6⟩, hf6⟩
  refine ⟨A1, c1, rfl, hf6, fun o => ?_⟩
  have hz := hf6.size
  have hbx : bx < w4.heap.size := blk_lt h1
  have hw := hf.size
  have hset : Fr (fun i => i = bx) w6 (((w6.setCell ⟨bx, 0, none⟩ (.int .i64 base)).setCell ⟨bx, 1, none⟩ (.slice A1 (wwrite ws x).1.length c1)).alloc o) :=
    (((Fr.refl (fun i => i = bx) w6).set ⟨bx, 0, none⟩ (.inl rfl) _).set ⟨bx, 1, none⟩ (.inl rfl) _).alloc o
  have hsz := hset.size
  have hb6 := blk_set (blk_set (hf6.blk h1 (fun f => f)) 0 (.int .i64 base)) 1 (.slice A1 (wwrite ws x).1.length c1)
  have hG : ∀ i, ((FM i ∨ RW i ∨ w4.heap.size ≤ i) ∧ i < w6.heap.size) → w0.heap.size ≤ i ∧ i ≠ bx ∧ i < w6.heap.size := fun i hi => by
    rcases hi.1 with h | h | h
    · have := hM i h; exact ⟨this.1, this.2.1, hi.2⟩
    · have := hRW i h; exact ⟨this.1, this.2.1, hi.2⟩
    · exact ⟨by omega, by omega, hi.2⟩
  refine ⟨⟨FX, fun i => (FM i ∨ RW i ∨ w4.heap.size ≤ i) ∧ i < w6.heap.size, (hT.fr0 hf6).fr hset (fun i hi e => (hX i hi).2.2.1 e), ⟨A1, c1, ?_, h5, (h6.mono fun i hi hl => ⟨hi, hl⟩).fr hset fun i hi e => (hG i hi).2.1 e⟩, fun i hi => ?_, fun i hi => ?_⟩, (hf.trans (hf6.mono fun _ _ f => f.elim)).trans (hset.mono fun i _ e => .inr (by omega)), hl⟩
  · exact (Below.heap_alloc _ _ _ (blk_lt hb6)).trans (by simpa using hb6)
  · have h8 := hX i hi
    exact ⟨h8.1, fun h => by
      rcases h.1 with h | h | h
      · exact h8.2.1 h
      · exact h8.2.2.2.1 h
      · omega, h8.2.2.1, by omega⟩
  · have h8 := hG i hi
    exact ⟨h8.1, h8.2.1, by omega⟩

/-- The program's write, the document's behind it, and its laying into the box. -/
theorem written_step {w0 wr X : World} {xb bx b : Nat} {base : Int} {ws : List Wr} {x : Wr} {A' : Option Addr} {c' : Nat} {fn : FuncId} {args : Array Value} (I : Both w0 wr xb bx base ws) (hfX : Fr No wr X) (hn : ws.length ≤ 20) (hri : Rising (ws.map Wr.key)) (hr : Rd Ty.u8 X (fun i => wr.heap.size ≤ i ∧ i < X.heap.size) A' x.row) (hc : x.row.length ≤ c')
    (hb : X.heap[b]? = some (.cells #[.string x.key, .slice A' x.row.length c', .bool x.gone] 43 (0, 0))) (hlb : wr.heap.size ≤ b)
    (hcall : ∀ FX, TxAt X FX xb base ws → Calls Try.prog fn args X fun e w4 => e = .returned (.int .i64 (wwrite ws x).2) ∧ TxAt w4 (fun i => FX i ∨ X.heap.size ≤ i) xb base (wwrite ws x).1 ∧ Fr FX X w4) :
    Calls Try.prog fn args X fun e w4 => e = .returned (.int .i64 (wwrite ws x).2) ∧ w4.heap[b]? = some (.cells #[.string x.key, .slice A' x.row.length c', .bool x.gone] 43 (0, 0)) ∧
      ∃ A c, w4.heap[bx]? = some (.cells #[.int .i64 base, .slice A ws.length c] 34 (0, 0)) ∧
      Calls Try.prog 34 #[.agg #[.int .i64 base, .slice A ws.length c], .agg #[.string x.key, .slice A' x.row.length c', .bool x.gone]] w4 fun e w6 => ∃ A1 c1, e = .returned (.tuple #[.agg #[.int .i64 base, .slice A1 (wwrite ws x).1.length c1], .int .i64 (wwrite ws x).2]) ∧ Fr No w4 w6 ∧
        ∀ o, Both w0 (((w6.setCell ⟨bx, 0, none⟩ (.int .i64 base)).setCell ⟨bx, 1, none⟩ (.slice A1 (wwrite ws x).1.length c1)).alloc o) xb bx base (wwrite ws x).1 := by
  obtain ⟨⟨FX, FM, hT, hB, hX, hM⟩, hfr, hlow⟩ := I
  refine (hcall FX (hT.fr0 hfX)).mono ?_
  rintro e w4 ⟨rfl, hT4, hf4⟩
  have hz := hfX.size
  have hz4 := hf4.size
  have hw := hfr.size
  have hbx : bx < wr.heap.size := by obtain ⟨_, _, h1, _⟩ := hB.box; exact blk_lt h1
  refine ⟨rfl, hf4.blk hb (fun h => by have := (hX b h).2.2.2; omega), ?_⟩
  refine written_main (FX := fun i => (FX i ∨ X.heap.size ≤ i) ∧ i < w4.heap.size) (FM := FM) (RW := fun i => wr.heap.size ≤ i ∧ i < X.heap.size) (hT4.mono fun i hi hl => ⟨hi, hl⟩) ((hB.fr0 hfX).fr hf4 (fun h => (hX _ h).2.2.1 rfl) (fun k hk h => (hX k h).2.1 hk)) (fun i hi => ?_) (fun i hi => ?_) (hr.fr hf4 fun i hi h => by have := (hX i h).2.2.2; have := hi.1; omega) hc (fun i hi => ⟨by have := hi.1; omega, by have := hi.1; omega, by have := hi.2; omega⟩) ((hfr.trans (hfX.mono fun _ _ f => f.elim)).trans (hf4.mono fun i _ h => .inr (hX i h).1)) hlow hn hri
  · obtain ⟨hi | hi, hl⟩ := hi
    · have h8 := hX i hi
      exact ⟨h8.1, h8.2.1, h8.2.2.1, fun h => by have := h.1; omega, hl⟩
    · exact ⟨by omega, fun h => by have := (hM i h).2.2; omega, by omega, fun h => by have := h.2; omega, hl⟩
  · have h8 := hM i hi
    exact ⟨h8.1, h8.2.1, by omega⟩

/-- A write that has just been made, in a box. -/
structure WBox (wr wx : World) (b : Nat) (key : ByteArray) (g : Bool) : Prop where
  lt : wr.heap.size ≤ b
  fr : Fr No wr wx
  box : wx.heap[b]? = some (.cells #[.string key, .slice none 0 0, .bool g] 43 (0, 0))

set_option maxHeartbeats 4000000 in
set_option maxRecDepth 100000 in
theorem law_written {w : World} {G : Nat → Prop} {E : Option Addr} {e1 : Nat} {l : List Actn} (base : Int) (h : Rd tAct w G E l) (hl : l.length ≤ 1000) :
    Calls Try.prog 15 #[.int .i64 base, .slice E l.length e1] w fun e w' => ∃ xb A c, e = .returned (.tuple #[.pointer (some ⟨xb, 0, none⟩), .agg #[.int .i64 base, .slice A (wrAll [] l).length c], .bool true]) ∧ (wrAll [] l).length ≤ c ∧
      (∃ FX FM : Nat → Prop, TxAt w' FX xb base (wrAll [] l) ∧ Rd tWr w' FM A (wrAll [] l) ∧ (∀ i, FX i → w.heap.size ≤ i ∧ ¬ FM i ∧ i < w'.heap.size)) ∧ Fr No w w' := by
  have hlI : (l.length : Int) ≤ 1000 := by omega
  obtain ⟨w0, hw0⟩ : ∃ w0, w0 = w.alloc (.cells #[.int .i64 0, .slice none 0 0] 34) := ⟨_, rfl⟩
  have hf0 : Fr No w w0 := by rw [hw0]; exact (Fr.refl No w).alloc _
  have hsz0 : w0.heap.size = w.heap.size + 1 := by rw [hw0]; simp
  have hb0 : w0.heap[w.heap.size]? = some (.cells #[.int .i64 0, .slice none 0 0] 34 (0, 0)) := by rw [hw0]; exact heap_alloc_new w _
  have H := Lib.hid (And.intro (h.mono fun i hi hl => (⟨hi, hl⟩ : G i ∧ i < w.heap.size)) (And.intro hf0 (And.intro hsz0 hb0)))
  clear h hf0 hsz0 hb0
  go_enter Try.func15, Try.ntmps15
  go_wp2_with fail
  rw [← hw0]
  clear hw0
  refine (tx_new base w0).mono ?_
  rintro e1 w1 ⟨xb, rfl, ht1, hf1⟩
  obtain ⟨W, hW⟩ : ∃ W, W = w1.alloc (.cells #[.int .i64 base, .slice none 0 0] 34) := ⟨_, rfl⟩
  have hfW : Fr No w1 W := by rw [hW]; exact (Fr.refl No w1).alloc _
  have hbW : W.heap[w1.heap.size]? = some (.cells #[.int .i64 base, .slice none 0 0] 34 (0, 0)) := by rw [hW]; exact heap_alloc_new w1 _
  have hsW : W.heap.size = w1.heap.size + 1 := by rw [hW]; simp
  have hBo : Both w0 W xb w1.heap.size base [] := ⟨⟨fun i => w0.heap.size ≤ i ∧ i < w1.heap.size, fun _ => False, (ht1.mono fun i hi hl => ⟨hi, hl⟩).fr0 hfW, ⟨none, 0, hbW, Nat.le_refl _, Rd.nil⟩, fun i hi => ⟨hi.1, fun f => f, by have := hi.2; omega, by have := hi.2; omega⟩, fun i f => f.elim⟩, hf1.trans (hfW.mono fun _ _ f => f.elim), hf1.size⟩
  have HB := Lib.hid hBo
  clear ht1 hf1 hfW hbW hsW hBo
  go_wp2_with fail
  rw [← hW]
  clear hW
  go_loopw [9, 10] (fun o i wr => ∃ k : Nat, k ≤ l.length ∧ i = .int .i64 k ∧ o = .bool true ∧ Hid (Both w0 wr xb w1.heap.size base (wrAll [] (l.take k)))) (fun _ i _ => l.length - (intOf i).toNat)
  case atStart => exact ⟨0, Nat.zero_le _, rfl, rfl, HB.out⟩
  case round =>
    obtain ⟨k, hk, rfl, rfl, I⟩ := hrel
    have hq0 : (0 : Int) ≤ (k : Int) := Int.natCast_nonneg _
    have hwr : Fr No w wr := H.out.2.1.trans (I.out.fr.mono fun _ _ f => f.elim)
    by_cases hlt : k < l.length
    · have hq1 : (k : Int) < (l.length : Int) := by omega
      obtain ⟨ad, rfl, x0, x1, x2⟩ := act_at (H.out.1.fr0 hwr) hlt
      have hstep : wrAll [] (l.take (k + 1)) = (wwrite (wrAll [] (l.take k)) (actW l[k])).1 := by rw [List.take_succ_eq_append_getElem hlt, wrAll_snoc]
      have hok := wrAll_ok nil_ok (l.take k)
      obtain ⟨ws, hws⟩ : ∃ ws, wrAll [] (l.take k) = ws := ⟨_, rfl⟩
      obtain ⟨a, ha⟩ : ∃ a, l[k] = a := ⟨_, rfl⟩
      rw [hws] at hstep hok I
      rw [ha] at hstep x0 x1 x2
      obtain ⟨q, r, g⟩ := a
      simp only at x0 x1 x2
      have HS := Lib.hid (And.intro hstep (And.intro hok hwr))
      clear hstep hok hwr hws ha
      have hmod : (q.toNat : Int) % 30 = ((q % 30).toNat : Int) := by rw [UInt8.toNat_mod]; rfl
      have kg : ∀ (w' : World) (b : Nat), w'.heap[b]? = some (.cells #[.int .u8 107, .int .u8 ((q.toNat : Int) % 30)] 5 (0, 0)) → (convert 27 9 (.slice (some ⟨b, 0, none⟩) 2 2)).run Try.prog w' = .ok (.string (kq (q % 30))) w' := fun w' b hb => by
        rw [hmod] at hb
        exact run_kq_at w' b (q % 30) hb
      have kc1 : ∀ w0 : World, (convert 27 9 (.slice (some ⟨w0.heap.size, 0, none⟩) 2 2)).run Try.prog (w0.alloc (.cells #[.int .u8 107, .int .u8 ((q.toNat : Int) % 30)] 5)).drew = .ok (.string (kq (q % 30))) (w0.alloc (.cells #[.int .u8 107, .int .u8 ((q.toNat : Int) % 30)] 5)).drew := fun w0 => kg _ _ (heap_alloc_new w0 _)
      have kc2 : ∀ (w0 : World) (o : Obj), (convert 27 9 (.slice (some ⟨w0.heap.size, 0, none⟩) 2 2)).run Try.prog ((w0.alloc (.cells #[.int .u8 107, .int .u8 ((q.toNat : Int) % 30)] 5)).alloc o).drew = .ok (.string (kq (q % 30))) ((w0.alloc (.cells #[.int .u8 107, .int .u8 ((q.toNat : Int) % 30)] 5)).alloc o).drew := fun w0 o => kg _ _ (blk_two1 w0 _ _)
      have kc3 : ∀ (w0 : World) (o : Obj), (convert 27 9 (.slice (some ⟨w0.heap.size + 1, 0, none⟩) 2 2)).run Try.prog ((w0.alloc o).alloc (.cells #[.int .u8 107, .int .u8 ((q.toNat : Int) % 30)] 5)).drew = .ok (.string (kq (q % 30))) ((w0.alloc o).alloc (.cells #[.int .u8 107, .int .u8 ((q.toNat : Int) % 30)] 5)).drew := fun w0 o => kg _ _ (blk_two2 w0 _ _)
      have kgt : ∀ (w' : World) (b : Nat), w'.heap[b]? = some (.cells #[.int .u8 107, .int .u8 ((q.toNat : Int).tmod 30)] 5 (0, 0)) → (convert 27 9 (.slice (some ⟨b, 0, none⟩) 2 2)).run Try.prog w' = .ok (.string (kq (q % 30))) w' := fun w' b hb => by
        rw [Int.tmod_eq_emod_of_nonneg (Int.natCast_nonneg _), hmod] at hb
        exact run_kq_at w' b (q % 30) hb
      have kt1 : ∀ w0 : World, (convert 27 9 (.slice (some ⟨w0.heap.size, 0, none⟩) 2 2)).run Try.prog (w0.alloc (.cells #[.int .u8 107, .int .u8 ((q.toNat : Int).tmod 30)] 5)).drew = .ok (.string (kq (q % 30))) (w0.alloc (.cells #[.int .u8 107, .int .u8 ((q.toNat : Int).tmod 30)] 5)).drew := fun w0 => kgt _ _ (heap_alloc_new w0 _)
      have kt2 : ∀ (w0 : World) (o : Obj), (convert 27 9 (.slice (some ⟨w0.heap.size, 0, none⟩) 2 2)).run Try.prog ((w0.alloc (.cells #[.int .u8 107, .int .u8 ((q.toNat : Int).tmod 30)] 5)).alloc o).drew = .ok (.string (kq (q % 30))) ((w0.alloc (.cells #[.int .u8 107, .int .u8 ((q.toNat : Int).tmod 30)] 5)).alloc o).drew := fun w0 o => kgt _ _ (blk_two1 w0 _ _)
      have kt3 : ∀ (w0 : World) (o : Obj), (convert 27 9 (.slice (some ⟨w0.heap.size + 1, 0, none⟩) 2 2)).run Try.prog ((w0.alloc o).alloc (.cells #[.int .u8 107, .int .u8 ((q.toNat : Int).tmod 30)] 5)).drew = .ok (.string (kq (q % 30))) ((w0.alloc o).alloc (.cells #[.int .u8 107, .int .u8 ((q.toNat : Int).tmod 30)] 5)).drew := fun w0 o => kgt _ _ (blk_two2 w0 _ _)
      clear kgt
      have x0a := fun o => cell_alloc x0 o
      have x2a := fun o => cell_alloc x2 o
      have x0b := fun o o' => cell_alloc (cell_alloc x0 o) o'
      have x2b := fun o o' => cell_alloc (cell_alloc x2 o) o'
      have hx0 : (0 : Int) ≤ (q.toNat : Int) := Int.natCast_nonneg _
      have hx1 : (q.toNat : Int) < 256 := by have := q.toNat_lt; omega
      have HKG := Lib.hid kg
      clear kg
      go_wp2_with fail
      go_cut [11] (fun s11 wx => ∃ b : Nat, s11 = .pointer (some ⟨b, 0, none⟩) ∧ Hid (WBox wr wx b (kq (q % 30)) g))
      case first =>
        go_region
        all_goals go_wp2_with fail
        all_goals go_meet
        all_goals refine ⟨_, rfl, ⟨by first | exact Nat.le_refl _ | exact Nat.le_add_right _ _ | simp, by repeat (first | exact Fr.refl _ _ | apply Fr.alloc | apply Fr.drew | apply Fr.drewN), ?_⟩⟩
        all_goals first
          | exact blk_two2 wr _ _
          | exact blk_two1 wr _ _
      case rest =>
        obtain ⟨b, rfl, HW⟩ := hcut
        clear kc1 kc2 kc3 kt1 kt2 kt3 x0a x0b x2a x2b x0 x2
        have x1 := HW.out.fr.cell x1 (fun f => f)
        have c0 := blk_cell HW.out.box 0
        have c1 := blk_cell HW.out.box 1
        have c2 := blk_cell HW.out.box 2
        have z1 := blk_frozen HW.out.box 1
        simp at c0 c1 c2
        have hbl : b < wc.heap.size := blk_lt HW.out.box
        cases g with
        | false =>
          obtain ⟨X, hX⟩ : ∃ X, X = (wc.setCell ⟨b, 1, none⟩ (.slice (some ⟨wc.heap.size, 0, none⟩) 1 1)).alloc (.cells #[.int .u8 (r.toNat : Int)] 5) := ⟨_, rfl⟩
          have hfX : Fr No wr X := by rw [hX]; exact (HW.out.fr.set ⟨b, 1, none⟩ (.inr HW.out.lt) _).alloc _
          have hnw := heap_alloc_new (wc.setCell ⟨b, 1, none⟩ (.slice (some ⟨wc.heap.size, 0, none⟩) 1 1)) (.cells #[.int .u8 (r.toNat : Int)] 5)
          rw [show (wc.setCell ⟨b, 1, none⟩ (.slice (some ⟨wc.heap.size, 0, none⟩) 1 1)).heap.size = wc.heap.size by simp [World.setCell], ← hX] at hnw
          have hbX : X.heap[b]? = some (.cells #[.string (kq (q % 30)), .slice (some ⟨wc.heap.size, 0, none⟩) 1 1, .bool false] 43 (0, 0)) := by
            have hb6 := blk_set HW.out.box 1 (.slice (some ⟨wc.heap.size, 0, none⟩) 1 1)
            rw [hX]
            exact (Below.heap_alloc _ _ _ (blk_lt hb6)).trans (by simpa using hb6)
          have hwz := HW.out.fr.size
          have hrX : Rd Ty.u8 X (fun i => wr.heap.size ≤ i ∧ i < X.heap.size) (some ⟨wc.heap.size, 0, none⟩) [r] := Rd.block hnw ⟨hwz, blk_lt hnw⟩ ⟨[.int .u8 r.toNat], [], rfl, rfl, rfl⟩ (by simp)
          have hcall := written_step (x := actW ⟨q, r, false⟩) (c' := 1) (fn := 12) (args := #[.pointer (some ⟨xb, 0, none⟩), .string (kq (q % 30)), .slice (some ⟨wc.heap.size, 0, none⟩) 1 1]) I.out hfX HS.out.2.1.len HS.out.2.1.rising hrX (Nat.le_refl _) hbX HW.out.lt (fun FX hT => tx_put (row := [r]) (c := 1) (kq (q % 30)) hT hrX HS.out.2.1.len rfl (by simp))
          have HCALL := Lib.hid hcall
          clear hcall hrX hbX hnw hfX
          go_wp2_with fail
          rw [← hX]
          clear hX
          refine HCALL.out.mono ?_
          rintro e4 w4 ⟨rfl, hb4, A4, c4, hbx4, hwrite⟩
          have l0 := blk_cell hb4 0
          have l1 := blk_cell hb4 1
          have l2 := blk_cell hb4 2
          have m0 := blk_cell hbx4 0
          have m1 := blk_cell hbx4 1
          simp at l0 l1 l2 m0 m1
          have H4 := Lib.hid (And.intro hwrite hbx4)
          clear hwrite hb4 hbx4
          go_wp2_with fail
          refine H4.out.1.mono ?_
          rintro e6 w6 ⟨A6, c6, rfl, hf6, hboth⟩
          have hbx6 := hf6.blk H4.out.2 (fun f => f)
          have p0 := blk_cell hbx6 0
          have p1 := blk_cell hbx6 1
          have y0 := blk_frozen hbx6 0
          have y1 := blk_frozen hbx6 1
          simp at p0 p1
          have hlt6 : w1.heap.size < w6.heap.size := blk_lt hbx6
          have H6 := Lib.hid hboth
          clear hf6 hboth hbx6
          go_wp2_with fail
          go_roundw
          case rel => exact ⟨k + 1, by omega, by go_num, rfl, by show Both w0 _ xb w1.heap.size base (wrAll [] (l.take (k + 1))); rw [HS.out.1]; exact H6.out _⟩
          case measure => simp [intOf]; omega
        | true =>
          have hrX : Rd Ty.u8 wc (fun i => wr.heap.size ≤ i ∧ i < wc.heap.size) none ([] : Bs) := Rd.nil
          have hcall := written_step (x := actW ⟨q, r, true⟩) (c' := 0) (fn := 13) (args := #[.pointer (some ⟨xb, 0, none⟩), .string (kq (q % 30))]) I.out HW.out.fr HS.out.2.1.len HS.out.2.1.rising hrX (Nat.le_refl _) HW.out.box HW.out.lt (fun FX hT => (tx_del (kq (q % 30)) hT HS.out.2.1.len).mono fun e w' h => ⟨h.1, h.2.1.mono fun i hi _ => .inl hi, h.2.2⟩)
          have HCALL := Lib.hid hcall
          clear hcall hrX
          go_wp2_with fail
          refine HCALL.out.mono ?_
          rintro e4 w4 ⟨rfl, hb4, A4, c4, hbx4, hwrite⟩
          have l0 := blk_cell hb4 0
          have l1 := blk_cell hb4 1
          have l2 := blk_cell hb4 2
          have m0 := blk_cell hbx4 0
          have m1 := blk_cell hbx4 1
          simp at l0 l1 l2 m0 m1
          have H4 := Lib.hid (And.intro hwrite hbx4)
          clear hwrite hb4 hbx4
          go_wp2_with fail
          refine H4.out.1.mono ?_
          rintro e6 w6 ⟨A6, c6, rfl, hf6, hboth⟩
          have hbx6 := hf6.blk H4.out.2 (fun f => f)
          have p0 := blk_cell hbx6 0
          have p1 := blk_cell hbx6 1
          have y0 := blk_frozen hbx6 0
          have y1 := blk_frozen hbx6 1
          simp at p0 p1
          have hlt6 : w1.heap.size < w6.heap.size := blk_lt hbx6
          have H6 := Lib.hid hboth
          clear hf6 hboth hbx6
          go_wp2_with fail
          go_roundw
          case rel => exact ⟨k + 1, by omega, by go_num, rfl, by show Both w0 _ xb w1.heap.size base (wrAll [] (l.take (k + 1))); rw [HS.out.1]; exact H6.out _⟩
          case measure => simp [intOf]; omega
    · obtain rfl : k = l.length := by omega
      rw [List.take_length] at I
      obtain ⟨⟨FX, FM, hT, hB, hX, hM⟩, hfr, hlow⟩ := I.out
      obtain ⟨A, c, hbx, hc, hrd⟩ := hB.box
      have hbw : wr.heap[w.heap.size]? = some (.cells #[.int .i64 0, .slice none 0 0] 34 (0, 0)) := hfr.blk H.out.2.2.2 (fun f => f)
      have a0 := blk_cell hbx 0
      have a1 := blk_cell hbx 1
      have r0 := blk_cell hbw 0
      have r1 := blk_cell hbw 1
      have z0 := blk_frozen hbw 0
      have z1 := blk_frozen hbw 1
      simp at a0 a1 r0 r1
      have hb4 := blk_set (blk_set hbw 0 (.int .i64 base)) 1 (.slice A (wrAll [] l).length c)
      have d0 := blk_cell hb4 0
      have d1 := blk_cell hb4 1
      simp at d0 d1
      have hset : Fr (fun i => i = w.heap.size) wr ((wr.setCell ⟨w.heap.size, 0, none⟩ (.int .i64 base)).setCell ⟨w.heap.size, 1, none⟩ (.slice A (wrAll [] l).length c)) :=
        ((Fr.refl (fun i => i = w.heap.size) wr).set ⟨w.heap.size, 0, none⟩ (.inl rfl) _).set ⟨w.heap.size, 1, none⟩ (.inl rfl) _
      have hsz := hset.size
      have hsz0 := H.out.2.2.1
      have e1 : TxAt ((wr.setCell ⟨w.heap.size, 0, none⟩ (.int .i64 base)).setCell ⟨w.heap.size, 1, none⟩ (.slice A (wrAll [] l).length c)).drew FX xb base (wrAll [] l) := (hT.fr hset fun i hi e => by have := (hX i hi).1; omega).fr0 ((Fr.refl No _).drew)
      have e2 : Rd tWr ((wr.setCell ⟨w.heap.size, 0, none⟩ (.int .i64 base)).setCell ⟨w.heap.size, 1, none⟩ (.slice A (wrAll [] l).length c)).drew FM A (wrAll [] l) := (hrd.fr hset fun i hi e => by have := (hM i hi).1; omega).fr0 ((Fr.refl No _).drew)
      have e3 : Fr No w ((wr.setCell ⟨w.heap.size, 0, none⟩ (.int .i64 base)).setCell ⟨w.heap.size, 1, none⟩ (.slice A (wrAll [] l).length c)).drew := (hwr.trans (hset.mono fun i _ e => .inr (by omega))).drew
      have HE := Lib.hid (And.intro e1 (And.intro e2 (And.intro e3 (And.intro hc (And.intro (fun i (hi : FX i) => (⟨by have := (hX i hi).1; omega, (hX i hi).2.1, by have := (hX i hi).2.2.2; simp [World.setCell]; exact this⟩ : w.heap.size ≤ i ∧ ¬ FM i ∧ i < ((wr.setCell ⟨w.heap.size, 0, none⟩ (.int .i64 base)).setCell ⟨w.heap.size, 1, none⟩ (.slice A (wrAll [] l).length c)).drew.heap.size)) (And.intro d0 d1))))))
      clear e1 e2 e3 hT hB hX hM hfr hlow hbx hrd hbw hb4 d0 d1 hset hwr hc
      go_wp2_with fail
      go_region
      go_wp2
      obtain ⟨e1, e2, e3, hc, hdis, d0, d1⟩ := HE.out
      exact bodyPost_ret (v := .tuple #[.pointer (some ⟨xb, 0, none⟩), .agg #[.int .i64 base, .slice A (wrAll [] l).length c], .bool true]) (by simp [results, Try.results15, go_sem, d0, d1]) rfl ⟨xb, A, c, rfl, hc, ⟨FX, FM, e1, e2, hdis⟩, e3⟩
end Go.Proofs.Ytkcppngopdiljaa
