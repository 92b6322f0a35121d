/- engine.Same of empty replies; the player: holds, together, call of a Begin. -/
import Derived.Test.YtfaooohenicfbaaGreatDoorLed
import Derived.Test.YtfaooohenicfbaaGreatDoorEnt
import Derived.BigQuiet
set_option linter.unusedVariables false
set_option linter.unusedSimpArgs false
namespace Go.Proofs.YtfaooohenicfbaaGreatDoor
open Go.RowKit

/-- An empty reply, and such as tell an error. -/
abbrev repV (e : Int) : Value := .agg #[.int .i64 e, .bool false, .slice none 0 0, .slice none 0 0, .slice none 0 0]
set_option maxHeartbeats 1000000 in
set_option maxRecDepth 100000 in
theorem eqf_nil {w : World} (f : Value) : Calls Tryz.prog 66 #[.slice none 0 0, .slice none 0 0, f] w fun e w' => e = .returned (.bool true) ∧ w' = w := by
  go_enter Tryz.func66, Tryz.ntmps66
  go_wp2_with fail
  refine wp_loop_rounds 1 ?_
  rw [rounds_succ]
  go_wp2_with fail
  go_ret
  exact ⟨rfl, rfl⟩
set_option maxHeartbeats 1000000 in
set_option maxRecDepth 100000 in
theorem eqs_nil {w : World} : Calls Tryz.prog 68 #[.slice none 0 0, .slice none 0 0] w fun e w' => e = .returned (.bool true) ∧ w' = w := by
  go_enter Tryz.func68, Tryz.ntmps68
  go_wp2_with fail
  refine wp_loop_rounds 1 ?_
  rw [rounds_succ]
  go_wp2_with fail
  go_ret
  exact ⟨rfl, rfl⟩
set_option maxHeartbeats 1000000 in
set_option maxRecDepth 100000 in
theorem conv_nil (w : World) : (convert 33 9 (.slice none 0 0)).run Tryz.prog w = .ok (.string ⟨#[]⟩) w := by kernel_rfl
theorem eqb_nil {w : World} : Calls Tryz.prog 69 #[.slice none 0 0, .slice none 0 0] w fun e w' => e = .returned (.bool true) ∧ w' = w := by
  have hc := conv_nil
  go_enter Tryz.func69, Tryz.ntmps69
  go_wp2_with fail
  go_ret
  exact ⟨rfl, rfl⟩
set_option maxHeartbeats 1000000 in
set_option maxRecDepth 100000 in
theorem same_rep {w : World} (a b : Int) : Calls Tryz.prog 47 #[repV a, repV b] w fun e w' => e = .returned (.bool (decide (a = b))) ∧ Fr No w w' := by
  have hw := Lib.hid (Fr.refl No w)
  by_cases hab : a = b
  · subst hab
    go_enter Tryz.func47, Tryz.ntmps47
    go_wp2_with fail
    refine (eqf_nil _).mono ?_
    rintro e w1 ⟨rfl, rfl⟩
    go_wp2_with fail
    refine eqs_nil.mono ?_
    rintro e w1 ⟨rfl, rfl⟩
    go_wp2_with fail
    refine eqb_nil.mono ?_
    rintro e w1 ⟨rfl, rfl⟩
    go_wp2_with fail
    go_ret
    exact ⟨by simp, (hw.out.alloc _).alloc _⟩
  · have hb : (a == b) = false := beq_eq_false_iff_ne.2 hab
    go_enter Tryz.func47, Tryz.ntmps47
    go_wp2_with fail
    go_ret
    exact ⟨by simp [hab], (hw.out.alloc _).alloc _⟩

/-- A player's block. -/
def PlB (w : World) (pb lb tb : Nat) (ok : Bool) : Prop := w.heap[pb]? = some (.cells #[.pointer (some ⟨lb, 0, none⟩), .map (some tb), .bool ok] 81)
set_option maxHeartbeats 1000000 in
set_option maxRecDepth 100000 in
theorem holds_ok {w : World} {pb lb tb : Nat} {ok : Bool} (x : En) (r : Int) (h : PlB w pb lb tb ok) : Calls Tryz.prog 30 #[.pointer (some ⟨pb, 0, none⟩), x.val, repV r] w fun e w' => e = .returned (.tuple #[]) ∧ PlB w' pb lb tb (decide (0 = r) && ok) ∧ Fr (fun i => i = pb) w w' := by
  obtain ⟨cl, kd, bg, pt, en, tn⟩ := x
  obtain ⟨W, hW⟩ : ∃ W, W = (w.alloc (.cells #[.int .i64 cl, .int .u8 kd, .int .i64 0, .slice none 0 0, .string ⟨#[]⟩, .int .i64 0, .int .i64 0, .bool false, .slice none 0 0, .slice none 0 0, .slice none 0 0, .int .i64 bg, .int .i64 pt, .int .i64 en, .int .i64 tn] 41)).alloc (.cells #[.int .i64 r, .bool false, .slice none 0 0, .slice none 0 0, .slice none 0 0] 35) := ⟨_, rfl⟩
  have hfW : Fr No w W := by rw [hW]; exact ((Fr.refl No w).alloc _).alloc _
  have b0 : W.heap[w.heap.size]? = some (.cells #[.int .i64 cl, .int .u8 kd, .int .i64 0, .slice none 0 0, .string ⟨#[]⟩, .int .i64 0, .int .i64 0, .bool false, .slice none 0 0, .slice none 0 0, .slice none 0 0, .int .i64 bg, .int .i64 pt, .int .i64 en, .int .i64 tn] 41) := by rw [hW, Below.heap_alloc _ _ _ (by simp)]; exact heap_alloc_new _ _
  have b1 : W.heap[w.heap.size + 1]? = some (.cells #[.int .i64 r, .bool false, .slice none 0 0, .slice none 0 0, .slice none 0 0] 35) := by rw [hW]; have := heap_alloc_new (w.alloc (.cells #[.int .i64 cl, .int .u8 kd, .int .i64 0, .slice none 0 0, .string ⟨#[]⟩, .int .i64 0, .int .i64 0, .bool false, .slice none 0 0, .slice none 0 0, .slice none 0 0, .int .i64 bg, .int .i64 pt, .int .i64 en, .int .i64 tn] 41)) (.cells #[.int .i64 r, .bool false, .slice none 0 0, .slice none 0 0, .slice none 0 0] 35); rwa [World.size_alloc] at this
  have e6 := blk_cell b0 6
  have e7 := blk_cell b0 7
  have e8 := blk_cell b0 8
  have e9 := blk_cell b0 9
  have e10 := blk_cell b0 10
  have r0 := blk_cell b1 0
  have r1 := blk_cell b1 1
  have r2 := blk_cell b1 2
  have r3 := blk_cell b1 3
  have r4 := blk_cell b1 4
  simp at e6 e7 e8 e9 e10 r0 r1 r2 r3 r4
  have hpW : PlB W pb lb tb ok := hfW.blk h (fun f => f)
  have H := Lib.hid (And.intro hfW hpW)
  have HS := Lib.hid fun (w : World) => same_rep (w := w) 0 r
  clear b0 b1 h hfW hpW
  go_enter Tryz.func30, Tryz.ntmps30
  go_wp2_with fail
  rw [← hW]
  clear hW
  go_wp2_with fail
  refine (HS.out _).mono ?_
  rintro e w1 ⟨rfl, hf1⟩
  have hp1 : PlB w1 pb lb tb ok := hf1.blk H.out.2 (fun f => f)
  have p0 := blk_cell hp1 0
  have p2 := blk_cell hp1 2
  have z2 := blk_frozen hp1 2
  simp at p0 p2
  have HF := Lib.hid (And.intro hp1 (H.out.1.trans (hf1.mono fun _ _ f => f.elim)))
  clear hf1 hp1
  by_cases hr : (0 : Int) = r
  · rw [decide_eq_true hr]
    go_wp2_with fail
    go_end0
    refine ⟨rfl, ?_, (HF.out.2.mono fun _ _ f => f.elim).trans ((Fr.refl _ _).set _ (.inl (.inl rfl)) _)⟩
    rw [decide_eq_true hr, Bool.true_and]; exact blk_set HF.out.1 2 (.bool ok)
  · rw [decide_eq_false hr]
    go_wp2_with fail
    go_end0
    refine ⟨rfl, ?_, (HF.out.2.mono fun _ _ f => f.elim).trans ((Fr.refl _ _).set _ (.inl (.inl rfl)) _)⟩
    rw [decide_eq_false hr, Bool.false_and]; exact blk_set HF.out.1 2 (.bool false)
set_option maxHeartbeats 1000000 in
set_option maxRecDepth 100000 in
theorem together_no {w : World} {F : Nat → Prop} {A : Option Addr} {c : Nat} {l : List En} (pb : Nat) (h : Rd tEn w F A l) (h1 : 0 < l.length) (hk : l[0].kd ≠ 6) : Calls Tryz.prog 29 #[.pointer (some ⟨pb, 0, none⟩), .slice A l.length c] w fun e w' => e = .returned (.int .i64 0) ∧ Fr No w w' := by
  have hw := Lib.hid (Fr.refl No w)
  obtain ⟨ad, rfl, ea⟩ := en_at h h1
  obtain ⟨x, hx⟩ : ∃ x, l[0] = x := ⟨_, rfl⟩
  rw [hx] at ea hk
  obtain ⟨c0, c1, c2, c3, c4, c5, c6, c7, c8, c9, c10, c11, c12, c13, c14⟩ := ea
  have hl63 := h.1
  have hli : (0 : Int) < (l.length : Int) := by omega
  have hlt : decide ((0 : Int) < (l.length : Int)) = true := decide_eq_true hli
  have hkk : (x.kd == 6) = false := beq_eq_false_iff_ne.2 hk
  rw [Nat.zero_mul, show ad.add 0 = ad from by simp [Addr.add]] at c0 c1 c2 c3 c4 c5 c6 c7 c8 c9 c10 c11 c12 c13 c14
  clear hx h
  go_enter Tryz.func29, Tryz.ntmps29
  go_wp2_with fail
  refine wp_loop_rounds 1 ?_
  rw [rounds_succ]
  go_wp2_with fail
  go_quiet (fail)
  go_wp2_with fail
  go_ret
  exact ⟨rfl, hw.out.drewN _⟩

theorem fr_set1 {w W : World} {b : Nat} (h : Fr (fun i => i = b) w W) (j : Nat) (u : Value) : Fr (fun i => i = b) w (W.setCell ⟨b, j, none⟩ u) := h.set ⟨b, j, none⟩ (Or.inl rfl) u
theorem zero_int (w : World) : (zeroValue 3).run Tryz.prog w = .ok (.int .i64 0) w := by kernel_rfl
set_option maxHeartbeats 2000000 in
set_option maxRecDepth 100000 in
/-- A Begin of a client that has no transaction. -/
theorem call_begin {w : World} {pb lb sb mb tb : Nat} {ok : Bool} {tabs m states : Value} {next n : Int} {l lt : List (Int × Value)} (x : En) (hk : x.kd = 1) (hp : PlB w pb lb tb ok) (hl : LedB w lb tabs sb mb next states) (hs : w.heap[sb]? = some (.cells #[m, .int .i64 n] 129)) (hm : MapII w mb l) (ht : MapII w tb lt)
    (h1 : lb ≠ sb) (h2 : lb ≠ mb) (h3 : sb ≠ mb) (h4 : pb ≠ lb) (h5 : pb ≠ mb) (h6 : pb ≠ tb) (h7 : tb ≠ lb) (h8 : tb ≠ mb) (h9 : tb ≠ sb) (hn0 : 0 ≤ next) (hn : next < 9223372036854775807) (hlook : lookI x.cl lt = none) :
    Calls Tryz.prog 31 #[.pointer (some ⟨pb, 0, none⟩), x.val] w fun e w' => ∃ xb, e = .returned (repV 0) ∧ PlB w' pb lb tb ok ∧ LedB w' lb tabs sb mb (next + 1) states ∧ MapII w' mb (layI (next + 1) (.pointer (some ⟨xb, 0, none⟩)) l) ∧ MapII w' tb (layI x.cl (.int .i64 (next + 1)) lt) ∧ Tx0 w' w.heap.size xb n ∧ Fr (fun i => i = lb ∨ i = mb ∨ i = tb) w w' := by
  obtain ⟨cl, kd, bg, pt, en, tn⟩ := x
  obtain rfl : kd = 1 := hk
  simp only at hlook
  obtain ⟨O1, hO1⟩ : ∃ O, O = Obj.cells #[.int .i64 cl, .int .u8 1, .int .i64 0, .slice none 0 0, .string ⟨#[]⟩, .int .i64 0, .int .i64 0, .bool false, .slice none 0 0, .slice none 0 0, .slice none 0 0, .int .i64 bg, .int .i64 pt, .int .i64 en, .int .i64 tn] 41 := ⟨_, rfl⟩
  obtain ⟨O2, hO2⟩ : ∃ O, O = Obj.cells #[.int .i64 0, .bool false, .slice none 0 0, .slice none 0 0, .slice none 0 0] 35 := ⟨_, rfl⟩
  obtain ⟨O3, hO3⟩ : ∃ O, O = Obj.cells #[.int .u8 1, .int .i64 0, .slice none 0 0, .string ⟨#[]⟩, .int .i64 0] 29 := ⟨_, rfl⟩
  obtain ⟨W, hW⟩ : ∃ W, W = ((w.alloc O1).alloc O2).alloc O3 := ⟨_, rfl⟩
  have hfW : Fr No w W := by rw [hW]; exact (((Fr.refl No w).alloc _).alloc _).alloc _
  have hb1 : W.heap[w.heap.size]? = some O1 := by rw [hW, Below.heap_alloc _ _ _ (by simp; omega), Below.heap_alloc _ _ _ (by simp)]; exact heap_alloc_new _ _
  have hb2 : W.heap[w.heap.size + 1]? = some O2 := by rw [hW, Below.heap_alloc _ _ _ (by simp)]; have := heap_alloc_new (w.alloc O1) O2; rwa [World.size_alloc] at this
  have e0 := blk_cell (hO1 ▸ hb1) 0
  have pW : PlB W pb lb tb ok := hfW.blk hp (fun f => f)
  have p0 := blk_cell pW 0
  have p1 := blk_cell pW 1
  simp at e0 p0 p1
  have htW : MapII W tb lt := ht.stab (hfW.block _ ht.lt (fun f => f))
  have hmW : MapII W mb l := hm.stab (hfW.block _ hm.lt (fun f => f))
  have hlt := (run_map_lookI (P := Tryz.prog) (htW.stab (w' := W.drew) rfl) 79 _ _ Tryz.underlying79 Tryz.underlying3 _ (zero_int W.drew) cl).1
  rw [hlook] at hlt
  simp only [Option.getD_none] at hlt
  have hplt := blk_lt hp
  have hllt := blk_lt hl
  have hmlt := hm.lt
  have hszW : W.heap.size = w.heap.size + 3 := by rw [hW]; simp
  have htlt := ht.lt
  have HB := Lib.hid fun (w' : World) (f : Fr No W w') => led_begin (w := w') (lb := lb) (sb := sb) (mb := mb) (f.blk (hfW.blk hl (fun f => f)) (fun f => f)) (f.blk (hfW.blk hs (fun f => f)) (fun f => f)) (hmW.stab (f.block _ hmW.lt (fun f => f))) h1 h2 h3 hn0 hn
  have H := Lib.hid (And.intro hfW (And.intro hb2 (And.intro pW (And.intro htW (And.intro h4 (And.intro h5 (And.intro h6 (And.intro h7 (And.intro h8 (And.intro hplt (And.intro htlt (And.intro hb1 (And.intro hllt (And.intro hmlt (And.intro hszW (And.intro hO1 hO2))))))))))))))))
  clear hfW hb1 hb2 pW htW hmW hp hl hs hm ht h1 h2 h3 h4 h5 h6 h7 h8 h9 hlook hplt hllt htlt hmlt hszW
  go_enter Tryz.func31, Tryz.ntmps31
  go_wp2_with fail
  rw [← hO1, ← hO2, ← hO3, ← hW]
  clear hO1 hO2 hO3 hW
  go_region
  go_wp2_with fail
  go_region_held3 (fun w' => w'.cell? ⟨pb, 0, none⟩ = some (.pointer (some ⟨lb, 0, none⟩)) ∧ w'.cell? ⟨pb, 1, none⟩ = some (.map (some tb)) ∧ w'.cell? ⟨w.heap.size, 0, none⟩ = some (.int .i64 cl))
    (first | exact ⟨p0, p1, e0⟩ | exact ⟨q0, q1, q2⟩ | exact ⟨s0, s1, s2⟩)
    (first
      | (go_at_call 48; refine (HB.out _ (by repeat (first | exact Fr.refl _ _ | apply Fr.drew | apply Fr.drewN))).mono ?_; rintro e5 w5 ⟨xb, rfl, hl5, hm5, hx5, hf5⟩
         obtain ⟨g1, g2, g3, g4, g5, g6, g7, g8, g9, g10, g11, g12, g13, g14, g17, g15, g16⟩ := H.out
         have hf5' : Fr (fun i => i = lb ∨ i = mb) W w5 := Fr.trans (Fr.drew (Fr.drew (Fr.refl _ W))) (hf5.mono fun _ _ e => .inl e)
         have pw : ∀ e, pb = e → e = lb ∨ e = mb → False := fun e h1 h2 => by subst h1; rcases h2 with h2 | h2; exact g5 h2; exact g6 h2
         have q0 : w5.cell? ⟨pb, 0, none⟩ = some (.pointer (some ⟨lb, 0, none⟩)) := hf5'.cell p0 (fun h => pw _ rfl h)
         have q1 : w5.cell? ⟨pb, 1, none⟩ = some (.map (some tb)) := hf5'.cell p1 (fun h => pw _ rfl h)
         have q2 : w5.cell? ⟨w.heap.size, 0, none⟩ = some (.int .i64 cl) := hf5'.cell e0 (fun h => by rcases h with h | h <;> simp only at h <;> omega)
         obtain ⟨w7, hU, hM7, hF7⟩ := run_map_layI (P := Tryz.prog) (w := w5) (MapII.stab g4 (hf5'.block _ g4.lt (fun h => by rcases h with h | h; exact g8 h; exact g9 h))) 79 _ _ Tryz.underlying79 Tryz.underlying3 cl (.int .i64 (next + 1))
         have s0 : w7.cell? ⟨pb, 0, none⟩ = some (.pointer (some ⟨lb, 0, none⟩)) := hF7.cell q0 (fun h => g7 h)
         have s1 : w7.cell? ⟨pb, 1, none⟩ = some (.map (some tb)) := hF7.cell q1 (fun h => g7 h)
         have s2 : w7.cell? ⟨w.heap.size, 0, none⟩ = some (.int .i64 cl) := hF7.cell q2 (fun h => by simp only at h; omega)
         have b7 : w7.heap[w.heap.size + 1]? = some O2 := hF7.blk (hf5'.blk g2 (fun h => by omega)) (fun h => by omega)
         rw [g16] at b7
         have t0 := blk_cell b7 0
         have t1 := blk_cell b7 1
         have t2 := blk_cell b7 2
         have t3 := blk_cell b7 3
         have t4 := blk_cell b7 4
         have y0 := blk_frozen b7 0
         have y1 := blk_frozen b7 1
         have y2 := blk_frozen b7 2
         have y3 := blk_frozen b7 3
         have y4 := blk_frozen b7 4
         simp at t0 t1 t2 t3 t4
         have HE := Lib.hid (And.intro hl5 (And.intro hm5 (And.intro hx5 (And.intro hf5' (And.intro hM7 (And.intro hF7 b7))))))
         clear hf5 hl5 hm5 hx5 hf5' hM7 hF7 b7 pw g1 g2 g3 g4 g5 g6 g7 g8 g9 g10 g11 g12 g13 g14 g15 g16 g17))
  all_goals
    go_wp2_with fail
    obtain ⟨hl5, hm5, hx5, hf5, hM7, hF7, b7⟩ := HE.out
    obtain ⟨g1, g2, g3, g4, g5, g6, g7, g8, g9, g10, g11, g12, g13, g14, g17, g15, g16⟩ := H.out
    have b8 := blk_set (blk_set (blk_set (blk_set (blk_set b7 0 (.int .i64 0)) 1 (.bool false)) 2 (.slice none 0 0)) 3 (.slice none 0 0)) 4 (.slice none 0 0)
    have d0 := blk_cell b8 0
    have d1 := blk_cell b8 1
    have d2 := blk_cell b8 2
    have d3 := blk_cell b8 3
    have d4 := blk_cell b8 4
    simp at d0 d1 d2 d3 d4
    have hsW := g1.size
    have hf8 : Fr (fun i => i = w.heap.size + 1) w7 (((((w7.setCell ⟨w.heap.size + 1, 0, none⟩ (.int .i64 0)).setCell ⟨w.heap.size + 1, 1, none⟩ (.bool false)).setCell ⟨w.heap.size + 1, 2, none⟩ (.slice none 0 0)).setCell ⟨w.heap.size + 1, 3, none⟩ (.slice none 0 0)).setCell ⟨w.heap.size + 1, 4, none⟩ (.slice none 0 0)) :=
      fr_set1 (fr_set1 (fr_set1 (fr_set1 (fr_set1 (Fr.refl _ w7) 0 _) 1 _) 2 _) 3 _) 4 _
    have hlb : LedB w7 lb tabs sb mb (next + 1) states := hF7.blk hl5 (fun h => g8 h.symm)
    obtain ⟨hxb, yb, hyb, u1, u2⟩ := hx5
    have hsx : W.heap.size ≤ xb := hxb
    have hsy : W.heap.size ≤ yb := hyb
    refine bodyPost_ret (v := repV 0) (by simp [results, Tryz.results31, go_sem, d0, d1, d2, d3, d4]) rfl ⟨xb, rfl, ?_, ?_, ?_, ?_, ⟨by omega, yb, by omega, ?_, ?_⟩, ?_⟩
    · exact hf8.blk (hF7.blk (hf5.blk g3 (fun h => by rcases h with h | h; exact g5 h; exact g6 h)) (fun h => g7 h)) (by omega)
    · exact hf8.blk hlb (by omega)
    · exact (hm5.stab (hF7.block _ hm5.lt (fun h => g9 h.symm))).stab (hf8.block _ (by have := hm5.lt; have := hF7.size; omega) (by omega))
    · exact hM7.stab (hf8.block _ hM7.lt (by omega))
    · exact hf8.blk (hF7.blk u1 (by omega)) (by omega)
    · exact hf8.blk (hF7.blk u2 (by omega)) (by omega)
    · refine ((g1.mono fun _ _ f => f.elim).trans (hf5.mono fun i _ h => .inl (by rcases h with h | h; exact .inl h; exact .inr (.inl h)))).trans ((hF7.mono fun i _ h => .inl (.inr (.inr h))).trans (hf8.mono fun i _ h => .inl (.inr (by omega))))
end Go.Proofs.YtfaooohenicfbaaGreatDoor
