/- history.Replay: of tables that may not be, of nothing, of one Begin. -/
import Derived.Test.YtfaooohenicfbaaGreatDoorPlay
import Derived.Test.YtfaooohenicfbaaGreatDoorNew
set_option linter.unusedVariables false
set_option linter.unusedSimpArgs false
namespace Go.Proofs.YtfaooohenicfbaaGreatDoor
open Go.RowKit

/-- The one table, with more keys than columns. -/
def tabK (k : Int) : Tab := (two 116 48, [(one 97, 1, false)], k)
set_option maxHeartbeats 1000000 in
set_option maxRecDepth 100000 in
theorem right_no {w : World} {F : Nat → Prop} {A : Option Addr} {c : Nat} {k : Int} (h : Rd tTab w F A [tabK k]) (hk : 1 < k) : Calls Tryz.prog 41 #[.slice A 1 c] w fun e w' => e = .returned (.bool false) ∧ Fr No w w' := by
  have hU := unlike_tabs (c := c) h (by intro t ht; obtain rfl : t = tabK k := by simpa using ht
                                        show 1 ≤ (two 116 48).size ∧ (two 116 48).size ≤ 20; decide) (by simp)
  have H := Lib.hid (And.intro h hU)
  have hk1 : ¬ k < 1 := by omega
  clear h hU
  go_enter Tryz.func41, Tryz.ntmps41
  go_wp2_with fail
  refine H.out.2.mono ?_
  rintro e w1 ⟨rfl, hf1⟩
  obtain ⟨ad, R, c1, rfl, x0, x1, x2, _, _⟩ := tab_at (i := 0) (H.out.1.fr0 hf1) (by simp)
  rw [Nat.zero_mul, show ad.add 0 = ad from by simp [Addr.add]] at x0 x1 x2
  change _ = some (Value.slice R 1 c1) at x1
  change _ = some (Value.int .i64 k) at x2
  change _ = some (Value.string (two 116 48)) at x0
  have HF := Lib.hid hf1
  clear hf1
  go_wp2_with fail
  refine wp_loop_rounds 1 ?_
  rw [rounds_succ]
  go_wp2_with fail
  go_ret
  exact ⟨rfl, HF.out.alloc _⟩
set_option maxHeartbeats 1000000 in
set_option maxRecDepth 100000 in
theorem new_no {w : World} {F : Nat → Prop} {A : Option Addr} {c : Nat} {k : Int} (h : Rd tTab w F A [tabK k]) (hk : 1 < k) : Calls Tryz.prog 28 #[.slice A 1 c] w fun e w' => e = .returned (.tuple #[.pointer none, .int .i64 1]) ∧ Fr No w w' := by
  have H := Lib.hid (right_no (c := c) h hk)
  clear h hk
  go_enter Tryz.func28, Tryz.ntmps28
  go_wp2_with fail
  refine H.out.mono ?_
  rintro e w1 ⟨rfl, hf1⟩
  have HF := Lib.hid hf1
  clear hf1
  go_wp2_with fail
  go_ret2
  exact ⟨rfl, HF.out⟩
set_option maxHeartbeats 1000000 in
set_option maxRecDepth 100000 in
theorem replay_no {w : World} {F : Nat → Prop} {A : Option Addr} {c : Nat} {k : Int} (v : Value) (h : Rd tTab w F A [tabK k]) (hk : 1 < k) : Calls Tryz.prog 16 #[.slice A 1 c, v] w fun e w' => e = .returned (.tuple #[.pointer none, .bool false]) ∧ Fr No w w' := by
  have H := Lib.hid (new_no (c := c) h hk)
  clear h hk
  go_enter Tryz.func16, Tryz.ntmps16
  go_wp2_with fail
  refine H.out.mono ?_
  rintro e w1 ⟨rfl, hf1⟩
  have HF := Lib.hid hf1
  clear hf1
  go_wp2_with fail
  go_ret2
  exact ⟨rfl, HF.out⟩
/-- Where a new ledger's blocks lie. -/
theorem newAt_led {w : World} {B lb n c : Nat} {A : Option Addr} (h : NewAt w B lb A n c) : ∃ sb mb vb st, LedB w lb (.slice A n c) sb mb 0 st ∧ w.heap[sb]? = some (.cells #[.map (some vb), .int .i64 0] 129) ∧ MapII w mb [] ∧ lb ≠ sb ∧ lb ≠ mb ∧ sb ≠ mb ∧ B ≤ lb ∧ B ≤ sb ∧ B ≤ mb := by
  obtain ⟨sb, vb, mb, gb, ⟨f1, f2, _, f4, _⟩, h1, h2, h3, h4, h5⟩ := h
  refine ⟨sb, mb, vb, _, h1, h2, ⟨#[], 0, h4, by simp, by simp, by simp, by simp⟩, ?_, ?_, ?_, f1, f2, f4⟩
  · rintro rfl; rw [h1] at h2; injection h2 with h2; injection h2 with h2 _; exact absurd (congrArg Array.size h2) (by simp)
  · rintro rfl; rw [h1] at h4; cases h4
  · rintro rfl; rw [h2] at h4; cases h4
set_option maxHeartbeats 2000000 in
set_option maxRecDepth 100000 in
theorem replay_nil {w : World} {F : Nat → Prop} {A : Option Addr} {c : Nat} {l : List Tab} (h : Rd tTab w F A l) (g : TabsOk l) (hk : KAt w) : Calls Tryz.prog 16 #[.slice A l.length c, .slice none 0 0] w fun e w' => ∃ lb, e = .returned (.tuple #[.pointer (some ⟨lb, 0, none⟩), .bool true]) ∧ Fr No w w' := by
  have H := Lib.hid (ledger_new (c := c) h g hk)
  have HO := Lib.hid fun (w : World) => order_small (w := w) (F := fun _ => True) (A := none) (c := 0) (xs := []) Rd.nil (by decide) (by simp)
  have hmm := @run_makeMap Tryz.prog
  clear h g hk
  go_enter Tryz.func16, Tryz.ntmps16
  go_wp2_with fail
  refine H.out.mono ?_
  rintro e w1 ⟨lb, rfl, hN, hf1⟩
  have HF := Lib.hid (And.intro hf1 hN)
  clear hf1 hN
  go_wp2_with fail
  refine (HO.out _).mono ?_
  rintro e w2 ⟨A1, c1, rfl, _, _, hf2⟩
  have hp : PlB w2 (w1.heap.size + 1) lb w1.heap.size true := hf2.blk (blk_two2 w1 _ _) (fun f => f)
  have p0 := blk_cell hp 0
  have p2 := blk_cell hp 2
  simp at p0 p2
  have HF2 := Lib.hid ((((HF.out.1.alloc _).alloc _)).trans (hf2.mono fun _ _ f => f.elim))
  clear hf2 hp
  go_wp2_with fail
  refine wp_loop_rounds 1 ?_
  rw [rounds_succ]
  go_wp2_with fail
  go_quiet (fail)
  go_wp2_with fail
  go_ret2
  exact ⟨lb, rfl, HF2.out.drewN _⟩

set_option maxHeartbeats 4000000 in
set_option maxRecDepth 100000 in
theorem replay_one {w : World} {F G : Nat → Prop} {A E : Option Addr} {c d : Nat} {l : List Tab} (x : En) (h : Rd tTab w F A l) (g : TabsOk l) (hk : KAt w) (he : Rd tEn w G E [x]) (hkd : x.kd = 1) (hpt : 0 < x.pt) :
    Calls Tryz.prog 16 #[.slice A l.length c, .slice E 1 d] w fun e w' => ∃ lb sb mb xa tabs st, e = .returned (.tuple #[.pointer (some ⟨lb, 0, none⟩), .bool true]) ∧ Fr No w w' ∧ LedB w' lb tabs sb mb 1 st ∧ MapII w' mb [(1, .pointer (some xa))] := by
  have H := Lib.hid (And.intro (ledger_new (c := c) h g hk) (fun (w1 : World) (f : Fr No w w1) => order_small (c := d) (he.fr0 f) (Nat.le_refl _) (by intro y hy; rw [List.mem_singleton.1 hy]; exact hpt)))
  have hmm := @run_makeMap Tryz.prog
  have HX := Lib.hid hkd
  have hkd6 : (x.kd == 6) = false := by rw [hkd]; rfl
  have HC6 := Lib.hid hkd6
  clear h g hk he hpt hkd
  go_enter Tryz.func16, Tryz.ntmps16
  go_wp2_with fail
  refine H.out.1.mono ?_
  rintro e w1 ⟨lb, rfl, hN, hf1⟩
  have HF := Lib.hid (And.intro hf1 hN)
  clear hf1 hN
  go_wp2_with fail
  refine (H.out.2 _ ((HF.out.1.alloc _).alloc _)).mono ?_
  rintro e w2 ⟨A1, c1, rfl, hc1, hR2, hf2⟩
  change 1 ≤ c1 at hc1
  change Rd tEn w2 _ A1 [x] at hR2
  obtain ⟨sb, mb, vb, st, hL1, hS1, hM1, a1, a2, a3, i1, i2, i3⟩ := newAt_led HF.out.2
  have hp : PlB w2 (w1.heap.size + 1) lb w1.heap.size true := hf2.blk (blk_two2 w1 _ _) (fun f => f)
  have hT : MapII w2 w1.heap.size [] := (MapII.new w1).stab ((hf2.block _ (by simp; omega) (fun f => f)).trans (Below.heap_alloc _ _ _ (by simp)))
  have hf12 : Fr No w1 w2 := (((Fr.refl No w1).alloc _).alloc _).trans (hf2.mono fun _ _ f => f.elim)
  have hL2 : LedB w2 lb _ sb mb 0 st := hf12.blk hL1 (fun f => f)
  have hS2 := hf12.blk hS1 (fun f => f)
  have hM2 := hM1.stab (hf12.block _ hM1.lt (fun f => f))
  obtain ⟨ad, had, ea⟩ := en_at hR2 (i := 0) (by simp)
  have hadb := rd_block hR2 (by simp) (by decide) had
  subst had
  change EnAt w2 (ad.add (0 * 15)) x at ea
  rw [Nat.zero_mul, show ad.add 0 = ad from by simp [Addr.add]] at ea
  have hadb' : w1.heap.size + 2 ≤ ad.block := by have h : ((w1.alloc _).alloc _).heap.size ≤ ad.block := hadb; simpa using h
  obtain ⟨A2, hcut0, _⟩ := cut_lo (P := Tryz.prog) tEn 38 41 .i64 Tryz.underlying38 (by kernel_rfl) (some ad) 1 c1 1 (Nat.le_refl _) hc1
  have hcut : ∀ W : World, (Instr.slice 38 (.slice (some ad) 1 c1) (some (.int .i64 1)) none none).run Tryz.prog W = .ok (.slice A2 0 (c1 - 1)) W := hcut0
  have HT := Lib.hid fun (w' : World) (f : Fr No w2 w') => together_no (c := c1) (w1.heap.size + 1) (hR2.fr0 f) (by simp) (by show x.kd ≠ 6; rw [HX.out]; decide)
  have l1 := blk_lt hL1
  have l2 := blk_lt hS1
  have l3 := hM1.lt
  have HCALL := Lib.hid fun (w' : World) (f : Fr No w2 w') => call_begin (w := w') (pb := w1.heap.size + 1) (lb := lb) (sb := sb) (mb := mb) (tb := w1.heap.size) (ok := true) (lt := []) x HX.out (f.blk hp (fun f => f)) (f.blk hL2 (fun f => f)) (f.blk hS2 (fun f => f)) (hM2.stab (f.block _ hM2.lt (fun f => f))) (hT.stab (f.block _ hT.lt (fun f => f))) a1 a2 a3 (by omega) (by omega) (by omega) (by omega) (by omega) (by omega) (by decide) (by decide) rfl
  have HE := Lib.hid (And.intro l1 (And.intro l3 (And.intro hadb' (And.intro hf12 (And.intro ea (And.intro i1 i3))))))
  clear hp hT hf12 hL1 hS1 hM1 hL2 hS2 hM2 a1 a2 a3 hR2 ea hf2 hkd6 hcut0 l1 l2 l3 hadb hadb' i1 i2 i3
  go_wp2_with fail
  refine wp_loop_rounds 2 ?_
  rw [rounds_succ]
  go_wp2_with fail
  refine (HT.out _ (Fr.refl _ _)).mono ?_
  rintro e w3 ⟨rfl, hf3⟩
  obtain ⟨c0, c1, c2, c3, c4, c5, c6, c7, c8, c9, c10, c11, c12, c13, c14⟩ := HE.out.2.2.2.2.1.fr hf3 (fun f => f)
  have HF3 := Lib.hid hf3
  have hk6 := HC6.out
  clear hf3
  go_wp2_with fail
  go_region_held3 (fun w' => w'.cell? ad = some (.int .i64 x.cl) ∧ w'.cell? ⟨ad.block, ad.off + 1, none⟩ = some (.int .u8 x.kd) ∧ w'.cell? ⟨ad.block, ad.off + 2, none⟩ = some (.int .i64 0) ∧ w'.cell? ⟨ad.block, ad.off + 3, none⟩ = some (.slice none 0 0) ∧ w'.cell? ⟨ad.block, ad.off + 4, none⟩ = some (.string ⟨#[]⟩) ∧ w'.cell? ⟨ad.block, ad.off + 5, none⟩ = some (.int .i64 0) ∧ w'.cell? ⟨ad.block, ad.off + 6, none⟩ = some (.int .i64 0) ∧ w'.cell? ⟨ad.block, ad.off + 7, none⟩ = some (.bool false) ∧ w'.cell? ⟨ad.block, ad.off + 8, none⟩ = some (.slice none 0 0) ∧ w'.cell? ⟨ad.block, ad.off + 9, none⟩ = some (.slice none 0 0) ∧ w'.cell? ⟨ad.block, ad.off + 10, none⟩ = some (.slice none 0 0) ∧ w'.cell? ⟨ad.block, ad.off + 11, none⟩ = some (.int .i64 x.bg) ∧ w'.cell? ⟨ad.block, ad.off + 12, none⟩ = some (.int .i64 x.pt) ∧ w'.cell? ⟨ad.block, ad.off + 13, none⟩ = some (.int .i64 x.en) ∧ w'.cell? ⟨ad.block, ad.off + 14, none⟩ = some (.int .i64 x.tn))
    (first | exact ⟨c0, c1, c2, c3, c4, c5, c6, c7, c8, c9, c10, c11, c12, c13, c14⟩ | exact ⟨q0, q1, q2, q3, q4, q5, q6, q7, q8, q9, q10, q11, q12, q13, q14⟩ | exact ⟨s0, s1, s2, s3, s4, s5, s6, s7, s8, s9, s10, s11, s12, s13, s14⟩)
    (first
      | (go_at_call 31; refine (HCALL.out _ (by repeat (first | exact HF3.out | exact Fr.refl _ _ | apply Fr.drew | apply Fr.drewN))).mono ?_; rintro e5 w5 ⟨xb, rfl, hp5, hl5, hm5, ht5, hx5, hf5⟩
         have hf5' : Fr (fun i => i = lb ∨ i = mb ∨ i = w1.heap.size) w2 w5 := Fr.trans (Fr.drew (HF3.out.mono fun _ _ f => f.elim)) (hf5.mono fun _ _ e => .inl e)
         obtain ⟨q0, q1, q2, q3, q4, q5, q6, q7, q8, q9, q10, q11, q12, q13, q14⟩ := HE.out.2.2.2.2.1.fr hf5' (fun h => by have h1 := HE.out.1; have h2 := HE.out.2.1; have h3 := HE.out.2.2.1; omega)
         have HQ := Lib.hid (And.intro hp5 (And.intro hl5 (And.intro hm5 hf5')))
         clear hf5 hp5 hl5 hm5 ht5 hx5 hf5')
      | (go_at_call 30; refine (holds_ok x 0 HQ.out.1).mono ?_; rintro e6 w6 ⟨rfl, hp6, hf6⟩
         obtain ⟨s0, s1, s2, s3, s4, s5, s6, s7, s8, s9, s10, s11, s12, s13, s14⟩ := (HE.out.2.2.2.2.1.fr HQ.out.2.2.2 (fun h => by have h1 := HE.out.1; have h2 := HE.out.2.1; have h3 := HE.out.2.2.1; omega)).fr hf6 (fun h => by have h3 := HE.out.2.2.1; omega)
         have hp6' : PlB w6 (w1.heap.size + 1) lb w1.heap.size true := hp6
         have p0 := blk_cell hp6' 0
         have p2 := blk_cell hp6' 2
         simp at p0 p2
         have HS := Lib.hid hf6
         clear hp6 hp6' hf6))
  all_goals
    go_wp2_with fail
    rw [rounds_succ]
    go_wp2_with fail
    go_quiet (fail)
    go_wp2_with fail
    go_ret2
    obtain ⟨l1, l3, l4, hf12, _, i1, i3⟩ := HE.out
    obtain ⟨hp5, hl5, hm5, hf5⟩ := HQ.out
    refine ⟨lb, sb, mb, ⟨xb, 0, none⟩, _, st, rfl, ?_, HS.out.blk hl5 (fun h => by omega), (hm5.stab (HS.out.block _ hm5.lt (fun h => by omega)))⟩
    have hw1 := HF.out.1.size
    refine Fr.drewN (HF.out.1.trans (Fr.mono (F := fun i => w.heap.size ≤ i) ?_ (fun i hi h => .inr ?_))) _
    · exact ((hf12.mono fun _ _ f => f.elim).trans (hf5.mono fun i _ h => .inl (by rcases h with h | h | h <;> omega))).trans (HS.out.mono fun i _ h => .inl (by omega))
    · exact h
end Go.Proofs.YtfaooohenicfbaaGreatDoor
