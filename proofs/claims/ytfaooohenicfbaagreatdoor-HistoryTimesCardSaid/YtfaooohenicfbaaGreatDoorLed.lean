/- A ledger's block; store.Now, tx.New, Begin, of, Open: over its block and its map of transactions. -/
import Derived.Test.YtfaooohenicfbaaGreatDoorProg
import Derived.Test.YtfaooohenicfbaaGreatDoorMapI
import Derived.Deep.RegionLaw
import Derived.Deep.RegionHeld3
import Derived.BigRegion
set_option linter.unusedVariables false
set_option linter.unusedSimpArgs false
namespace Go.Proofs.YtfaooohenicfbaaGreatDoor
open Go.RowKit

set_option maxHeartbeats 400000 in
set_option maxRecDepth 100000 in
theorem store_now {w : World} {sb : Nat} {m : Value} {n : Int} (h : w.heap[sb]? = some (.cells #[m, .int .i64 n] 129)) : Calls Tryz.prog 71 #[.pointer (some ⟨sb, 0, none⟩)] w fun e w' => e = .returned (.int .i64 n) ∧ w' = w := by
  have c1 := blk_cell h 1
  simp at c1
  clear h
  go_enter Tryz.func71, Tryz.ntmps71
  go_wp2_with fail
  go_ret
  exact ⟨rfl, rfl⟩
set_option maxHeartbeats 400000 in
set_option maxRecDepth 100000 in
theorem tx_new_raw {w : World} (base : Int) : Calls Tryz.prog 70 #[.int .i64 base] w fun e w' => e = .returned (.pointer (some ⟨w.heap.size + 1, 0, none⟩)) ∧ w' = (w.alloc (.map #[] 0)).alloc (.cells #[.int .i64 base, .map (some w.heap.size)] 181) := by
  have hmm := @run_makeMap Tryz.prog
  go_enter Tryz.func70, Tryz.ntmps70
  go_wp2_with fail
  go_ret
  exact ⟨rfl, rfl⟩

theorem blk_new1 (w : World) (o o' : Obj) : ((w.drew.alloc o).alloc o').heap[w.heap.size]? = some o := by
  rw [Below.heap_alloc _ _ _ (by simp)]; exact heap_alloc_new w.drew o
theorem blk_new2 (w : World) (o o' : Obj) : ((w.drew.alloc o).alloc o').heap[w.heap.size + 1]? = some o' := by
  have := heap_alloc_new (w.drew.alloc o) o'; rwa [World.size_alloc] at this
/-- A ledger's block. -/
def LedB (w : World) (lb : Nat) (tabs : Value) (sb mb : Nat) (next : Int) (states : Value) : Prop := w.heap[lb]? = some (.cells #[tabs, .pointer (some ⟨sb, 0, none⟩), .map (some mb), .int .i64 next, states] 108)
/-- A new transaction's two blocks. -/
def Tx0 (w : World) (B xb : Nat) (base : Int) : Prop := B ≤ xb ∧ ∃ yb, B ≤ yb ∧ w.heap[xb]? = some (.cells #[.int .i64 base, .map (some yb)] 181) ∧ w.heap[yb]? = some (.map #[] 0)

set_option maxHeartbeats 1000000 in
set_option maxRecDepth 100000 in
theorem led_begin {w : World} {lb sb mb : Nat} {tabs m states : Value} {next n : Int} {l : List (Int × Value)} (hl : LedB w lb tabs sb mb next states) (hs : w.heap[sb]? = some (.cells #[m, .int .i64 n] 129)) (hm : MapII w mb l) (h1 : lb ≠ sb) (h2 : lb ≠ mb) (h3 : sb ≠ mb) (hn0 : 0 ≤ next) (hn : next < 9223372036854775807) :
    Calls Tryz.prog 48 #[.pointer (some ⟨lb, 0, none⟩)] w fun e w' => ∃ xb, e = .returned (.int .i64 (next + 1)) ∧ LedB w' lb tabs sb mb (next + 1) states ∧ MapII w' mb (layI (next + 1) (.pointer (some ⟨xb, 0, none⟩)) l) ∧ Tx0 w' w.heap.size xb n ∧ Fr (fun i => i = lb ∨ i = mb) w w' := by
  have c3 := blk_cell hl 3
  have z3 := blk_frozen hl 3
  simp at c3
  obtain ⟨V, hV⟩ : ∃ V, V = w.setCell ⟨lb, 3, none⟩ (.int .i64 (next + 1)) := ⟨_, rfl⟩
  have hlV : LedB V lb tabs sb mb (next + 1) states := by rw [hV]; exact blk_set hl 3 _
  have hsV : V.heap[sb]? = some (.cells #[m, .int .i64 n] 129) := by rw [hV]; exact blk_far hs (fun e => h1 e.symm) _
  have hmV : MapII V mb l := hm.stab (by rw [hV]; exact Below.heap_setCell _ _ _ _ (fun e => h2 e.symm))
  have hfV : Fr (fun i => i = lb ∨ i = mb) w V := by rw [hV]; exact (Fr.refl _ w).set _ (.inl (.inl rfl)) _
  have d1 := blk_cell hlV 1
  have d2 := blk_cell hlV 2
  have d3 := blk_cell hlV 3
  simp at d1 d2 d3
  have hrw : IntKind.i64.wrap (next + 1) = next + 1 := IntWalk.i64_in _ (by omega)
  obtain ⟨W, hW⟩ : ∃ W, W = (V.drew.alloc (.map #[] 0)).alloc (.cells #[.int .i64 n, .map (some V.heap.size)] 181) := ⟨_, rfl⟩
  have hfW : Fr No V W := by rw [hW]; exact ((Fr.refl No V).drew.alloc _).alloc _
  have hmW : MapII W mb l := hmV.stab (hfW.block _ hmV.lt (fun f => f))
  have hT : W.heap[V.heap.size + 1]? = some (.cells #[.int .i64 n, .map (some V.heap.size)] 181) ∧ W.heap[V.heap.size]? = some (.map #[] 0) := ⟨by rw [hW]; exact blk_new2 _ _ _, by rw [hW]; exact blk_new1 _ _ _⟩
  have hmlt := hm.lt
  obtain ⟨w7, hU, hM7, hF7⟩ := run_map_layI (P := Tryz.prog) (w := W) hmW 105 _ _ Tryz.underlying105 Tryz.underlying3 (next + 1) (.pointer (some ⟨V.heap.size + 1, 0, none⟩))
  have hszV : V.heap.size = w.heap.size := by rw [hV]; simp
  have q1 := hfW.cell d1 (fun f => f)
  have q2 := hfW.cell d2 (fun f => f)
  have q3 := hfW.cell d3 (fun f => f)
  have r1 := hF7.cell q1 (fun e => h2 e)
  have r2 := hF7.cell q2 (fun e => h2 e)
  have r3 := hF7.cell q3 (fun e => h2 e)
  have HN := Lib.hid fun (w' : World) (e : w'.heap = V.heap) => store_now (w := w') (e ▸ hsV)
  have H := Lib.hid (And.intro hM7 (And.intro hF7 (And.intro hfW (And.intro hfV (And.intro hlV (And.intro hT (And.intro h2 (And.intro hszV hmlt))))))))
  have HT := Lib.hid (show Calls Tryz.prog 70 #[.int .i64 n] V.drew fun e w' => e = .returned (.pointer (some ⟨V.heap.size + 1, 0, none⟩)) ∧ w' = W from (tx_new_raw n).mono (by rintro e w' ⟨rfl, rfl⟩; exact ⟨rfl, hW.symm⟩))
  clear hW
  clear hl hs hm hsV hmV hfV hmW hM7 hF7 hfW h1 h3 hT hlV h2 hszV hmlt
  go_enter Tryz.func48, Tryz.ntmps48
  go_wp2_with fail
  rw [← hV]
  clear hV
  go_region_held3 (fun w' => w'.cell? ⟨lb, 1, none⟩ = some (.pointer (some ⟨sb, 0, none⟩)) ∧ w'.cell? ⟨lb, 2, none⟩ = some (.map (some mb)) ∧ w'.cell? ⟨lb, 3, none⟩ = some (.int .i64 (next + 1)))
    (first | exact ⟨d1, d2, d3⟩ | exact ⟨q1, q2, q3⟩ | exact ⟨r1, r2, r3⟩)
    (first
      | (go_at_call 71; refine (HN.out V.drew rfl).mono ?_; rintro e5 w5 ⟨rfl, rfl⟩)
      | (go_at_call 70; refine HT.out.mono ?_; rintro e5 w5 ⟨rfl, rfl⟩))
  all_goals
    go_wp2_with fail
    go_ret
    obtain ⟨hM, hF7, hfW, hfV, hlV, ⟨t1, t2⟩, h2, hsz, hlt⟩ := H.out
    refine ⟨V.heap.size + 1, rfl, hF7.blk (hfW.blk hlV (fun f => f)) h2, hM, ⟨by omega, _, by omega, hF7.blk t1 (by omega), hF7.blk t2 (by omega)⟩, ?_⟩
    exact (hfV.trans (hfW.mono fun _ _ f => f.elim)).trans (hF7.mono fun _ _ e => .inl (.inr e))

theorem zero_txp (w : World) : (zeroValue 87).run Tryz.prog w = .ok (.pointer none) w := by kernel_rfl
set_option maxHeartbeats 1000000 in
set_option maxRecDepth 100000 in
theorem led_of {w : World} {lb sb mb : Nat} {tabs states : Value} {next : Int} {l : List (Int × Value)} (id : Int) (x : Option Addr) (hl : LedB w lb tabs sb mb next states) (hm : MapII w mb l) (h : lookI id l = x.map fun a => Value.pointer (some a)) :
    Calls Tryz.prog 35 #[.pointer (some ⟨lb, 0, none⟩), .int .i64 id] w fun e w' => e = .returned (.tuple #[.pointer x, .int .i64 (if x.isSome then 0 else 6)]) ∧ w' = w := by
  have c2 := blk_cell hl 2
  simp at c2
  have hr := (run_map_lookI (P := Tryz.prog) hm 105 _ _ Tryz.underlying105 Tryz.underlying3 _ (zero_txp w) id).1
  rw [h] at hr
  clear hl hm h
  cases x with
  | none =>
    simp only [Option.map_none, Option.getD_none] at hr
    go_enter Tryz.func35, Tryz.ntmps35
    go_wp2_with fail
    go_ret2
    exact ⟨rfl, rfl⟩
  | some a =>
    simp only [Option.map_some, Option.getD_some] at hr
    go_enter Tryz.func35, Tryz.ntmps35
    go_wp2_with fail
    go_ret2
    exact ⟨rfl, rfl⟩
set_option maxHeartbeats 1000000 in
set_option maxRecDepth 100000 in
theorem led_open {w : World} {lb sb mb : Nat} {tabs states : Value} {next : Int} {l : List (Int × Value)} (id : Int) (x : Option Addr) (hl : LedB w lb tabs sb mb next states) (hm : MapII w mb l) (h : lookI id l = x.map fun a => Value.pointer (some a)) :
    Calls Tryz.prog 17 #[.pointer (some ⟨lb, 0, none⟩), .int .i64 id] w fun e w' => e = .returned (.bool x.isSome) ∧ w' = w := by
  have H := Lib.hid (led_of id x hl hm h)
  clear hl hm h
  cases x with
  | none =>
    go_enter Tryz.func17, Tryz.ntmps17
    go_wp2_with fail
    refine H.out.mono ?_
    rintro e w1 ⟨rfl, rfl⟩
    go_wp2_with fail
    go_ret
    exact ⟨rfl, rfl⟩
  | some a =>
    go_enter Tryz.func17, Tryz.ntmps17
    go_wp2_with fail
    refine H.out.mono ?_
    rintro e w1 ⟨rfl, rfl⟩
    go_wp2_with fail
    go_ret
    exact ⟨rfl, rfl⟩
end Go.Proofs.YtfaooohenicfbaaGreatDoor
