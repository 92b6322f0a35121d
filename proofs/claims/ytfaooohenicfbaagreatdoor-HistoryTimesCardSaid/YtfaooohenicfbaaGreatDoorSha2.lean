/- SHA-256: the ring of words. -/
import Derived.Test.YtfaooohenicfbaaGreatDoorSha
import Derived.StillTailTactics
import Derived.BigRegion
import Derived.Deep.RegionLaw
set_option linter.unusedVariables false
set_option linter.unusedSimpArgs false
namespace Go.Proofs.YtfaooohenicfbaaGreatDoor
open Go.RowKit

/-- Words in an array's cells, from a place on. -/
structure Words (w : World) (b o n : Nat) (R : Nat → W32) : Prop where
  blk : ∃ cs tt, w.heap[b]? = some (.cells cs tt (0, 0)) ∧ o + n ≤ cs.size ∧ ∀ j, j < n → cs[o + j]? = some (.int .u32 (U (R j)))
theorem Words.lt {w : World} {b o n : Nat} {R : Nat → W32} (h : Words w b o n R) : b < w.heap.size := by obtain ⟨cs, tt, hb, _⟩ := h.blk; exact blk_lt hb
theorem Words.cell {w : World} {b o n : Nat} {R : Nat → W32} (h : Words w b o n R) {j : Nat} (hj : j < n) : w.cell? ⟨b, o + j, none⟩ = some (.int .u32 (U (R j))) := by
  obtain ⟨cs, tt, hb, _, hc⟩ := h.blk
  rw [blk_cell hb]; exact hc j hj
theorem Words.free {w : World} {b o n : Nat} {R : Nat → W32} (h : Words w b o n R) (j : Nat) : w.frozen? ⟨b, j, none⟩ = false := by
  obtain ⟨cs, tt, hb, _, _⟩ := h.blk
  exact blk_frozen hb j
theorem Words.fr {S : Nat → Prop} {w w' : World} {b o n : Nat} {R : Nat → W32} (h : Words w b o n R) (f : Fr S w w') (hn : ¬ S b) : Words w' b o n R := by
  obtain ⟨cs, tt, hb, h1, hc⟩ := h.blk
  exact ⟨cs, tt, f.blk hb hn, h1, hc⟩
def upd (R : Nat → W32) (i : Nat) (v : W32) : Nat → W32 := fun j => if j = i then v else R j
theorem Words.fr0 {w w' : World} {b o n : Nat} {R : Nat → W32} (h : Words w b o n R) (f : Fr No w w') : Words w' b o n R := h.fr f (fun f => f)
theorem Words.set {w : World} {b o n : Nat} {R : Nat → W32} (h : Words w b o n R) {i : Nat} (hi : i < n) (v : W32) : Words (w.setCell ⟨b, o + i, none⟩ (.int .u32 (U v))) b o n (upd R i v) := by
  obtain ⟨cs, tt, hb, h1, hc⟩ := h.blk
  refine ⟨_, tt, blk_set hb _ _, by simpa using h1, fun j hj => ?_⟩
  rw [Array.getElem?_setIfInBounds]
  unfold upd
  by_cases e : j = i
  · subst e; rw [if_pos rfl, if_pos (by omega), if_pos rfl]
  · rw [if_neg (by omega), if_neg e]; exact hc j hj

/-- The new word. -/
def sg0 (x : W32) : W32 := rr x 7 ^^^ rr x 18 ^^^ (x >>> 3)
def sg1 (x : W32) : W32 := rr x 17 ^^^ rr x 19 ^^^ (x >>> 10)
def nextW (R : Nat → W32) (i : Nat) : W32 := R (i % 16) + ((sg0 (R ((i + 1) % 16)) + R ((i + 9) % 16)) + sg1 (R ((i + 14) % 16)))

set_option maxHeartbeats 1000000 in
set_option maxRecDepth 100000 in
theorem word_old {w : World} {b : Nat} {R : Nat → W32} {i : Nat} (h : Words w b 0 16 R) (hi : i < 16) : Calls Tryz.prog 134 #[.pointer (some ⟨b, 0, none⟩), .int .i64 i] w fun e w' => e = .returned (.int .u32 (U (R i))) ∧ w' = w := by
  have c := h.cell hi
  rw [Nat.zero_add] at c
  have hi0 : (0 : Int) ≤ (i : Int) := Int.natCast_nonneg _
  have hi1 : (i : Int) < 16 := by omega
  have hm : (i : Int) % 16 = (i : Int) := by omega
  have ha : (⟨b, 0, none⟩ : Addr).add i = ⟨b, i, none⟩ := add0 b i
  clear h
  go_enter Tryz.func134, Tryz.ntmps134
  go_wp2
  go_ret
  exact ⟨rfl, rfl⟩

set_option maxHeartbeats 1000000 in
set_option maxRecDepth 100000 in
theorem word_new {w : World} {b : Nat} {R : Nat → W32} {i : Nat} (h : Words w b 0 16 R) (hi : 16 ≤ i) (hi2 : i < 64) : Calls Tryz.prog 134 #[.pointer (some ⟨b, 0, none⟩), .int .i64 i] w fun e w' => e = .returned (.int .u32 (U (nextW R i))) ∧ Words w' b 0 16 (upd R (i % 16) (nextW R i)) ∧ Fr (fun k => k = b) w w' := by
  have hi0 : (16 : Int) ≤ (i : Int) := by omega
  have hi1 : (i : Int) < 64 := by omega
  obtain ⟨p, hp⟩ : ∃ p, i % 16 = p := ⟨_, rfl⟩
  obtain ⟨p1, hp1⟩ : ∃ p, (i + 1) % 16 = p := ⟨_, rfl⟩
  obtain ⟨p9, hp9⟩ : ∃ p, (i + 9) % 16 = p := ⟨_, rfl⟩
  obtain ⟨p14, hp14⟩ : ∃ p, (i + 14) % 16 = p := ⟨_, rfl⟩
  have l0 : p < 16 := by omega
  have l1 : p1 < 16 := by omega
  have l9 : p9 < 16 := by omega
  have l14 : p14 < 16 := by omega
  have l0i : (p : Int) < 16 := by omega
  have l1i : (p1 : Int) < 16 := by omega
  have l9i : (p9 : Int) < 16 := by omega
  have l14i : (p14 : Int) < 16 := by omega
  have n0i : (0 : Int) ≤ (p : Int) := by omega
  have n1i : (0 : Int) ≤ (p1 : Int) := by omega
  have n9i : (0 : Int) ≤ (p9 : Int) := by omega
  have n14i : (0 : Int) ≤ (p14 : Int) := by omega
  have m0 : (i : Int) % 16 = (p : Int) := by omega
  have m1 : ((i : Int) + 1) % 16 = (p1 : Int) := by omega
  have m9 : ((i : Int) + 9) % 16 = (p9 : Int) := by omega
  have m14 : ((i : Int) + 14) % 16 = (p14 : Int) := by omega
  have s1 : IntKind.i64.wrap ((i : Int) + 1) = (i : Int) + 1 := IntWalk.i64_in _ (by omega)
  have s9 : IntKind.i64.wrap ((i : Int) + 9) = (i : Int) + 9 := IntWalk.i64_in _ (by omega)
  have s14 : IntKind.i64.wrap ((i : Int) + 14) = (i : Int) + 14 := IntWalk.i64_in _ (by omega)
  have t0 : (i : Int).tmod 16 = (p : Int) := by rw [Int.tmod_eq_emod_of_nonneg (by omega)]; exact m0
  have t1 : ((i : Int) + 1).tmod 16 = (p1 : Int) := by rw [Int.tmod_eq_emod_of_nonneg (by omega)]; exact m1
  have t9 : ((i : Int) + 9).tmod 16 = (p9 : Int) := by rw [Int.tmod_eq_emod_of_nonneg (by omega)]; exact m9
  have t14 : ((i : Int) + 14).tmod 16 = (p14 : Int) := by rw [Int.tmod_eq_emod_of_nonneg (by omega)]; exact m14
  have c0 := h.cell l0
  have c1 := h.cell l1
  have c9 := h.cell l9
  have c14 := h.cell l14
  have z0 := h.free p
  rw [Nat.zero_add] at c0 c1 c9 c14
  have a0 := add0 b p
  have a1 := add0 b p1
  have a9 := add0 b p9
  have a14 := add0 b p14
  have H := Lib.hid (And.intro h (And.intro hp (And.intro hp1 (And.intro hp9 hp14))))
  obtain ⟨x0, hx0⟩ : ∃ x, R p = x := ⟨_, rfl⟩
  obtain ⟨x1, hx1⟩ : ∃ x, R p1 = x := ⟨_, rfl⟩
  obtain ⟨x9, hx9⟩ : ∃ x, R p9 = x := ⟨_, rfl⟩
  obtain ⟨x14, hx14⟩ : ∃ x, R p14 = x := ⟨_, rfl⟩
  rw [hx0] at c0
  rw [hx1] at c1
  rw [hx9] at c9
  rw [hx14] at c14
  have HX := Lib.hid (And.intro hx0 (And.intro hx1 (And.intro hx9 hx14)))
  have r3 : (U x1).fdiv (2 ^ 3) = U (x1 >>> 3) := U_shr x1 3
  have q3 := shift_shr x1 3 3 rfl (by decide)
  have q10 := shift_shr x14 10 10 rfl (by decide)
  obtain ⟨y1, hy1⟩ : ∃ y, sg0 x1 = y := ⟨_, rfl⟩
  obtain ⟨y2, hy2⟩ : ∃ y, sg1 x14 = y := ⟨_, rfl⟩
  obtain ⟨v1, hv1⟩ : ∃ v, y1 + x9 = v := ⟨_, rfl⟩
  obtain ⟨v2, hv2⟩ : ∃ v, v1 + y2 = v := ⟨_, rfl⟩
  obtain ⟨v3, hv3⟩ : ∃ v, x0 + v2 = v := ⟨_, rfl⟩
  have d1 := U_add y1 x9
  have d2 := U_add v1 y2
  have d3 := U_add x0 v2
  rw [hv1] at d1
  rw [hv2] at d2
  rw [hv3] at d3
  have HN := Lib.hid (show nextW R i = v3 by unfold nextW; rw [H.out.2.1, H.out.2.2.1, H.out.2.2.2.1, H.out.2.2.2.2, HX.out.1, HX.out.2.1, HX.out.2.2.1, HX.out.2.2.2, hy1, hy2, hv1, hv2, hv3])
  have HS1 := Lib.hid (show ∀ w : World, Calls Tryz.prog 132 #[.int .u32 (U x1), .int .i64 7, .int .i64 18, .int .u32 (U (x1 >>> 3))] w fun e w' => e = .returned (.int .u32 (U y1)) ∧ w' = w by rw [← hy1]; exact spread_ok x1 (x1 >>> 3) 7 18 7 18 (by decide) (by decide) (by decide) (by decide))
  have HS2 := Lib.hid (show ∀ w : World, Calls Tryz.prog 132 #[.int .u32 (U x14), .int .i64 17, .int .i64 19, .int .u32 (U (x14 >>> 10))] w fun e w' => e = .returned (.int .u32 (U y2)) ∧ w' = w by rw [← hy2]; exact spread_ok x14 (x14 >>> 10) 17 19 17 19 (by decide) (by decide) (by decide) (by decide))
  clear hy1 hy2 hv1 hv2 hv3
  clear h hp hp1 hp9 hp14 hx0 hx1 hx9 hx14
  go_enter Tryz.func134, Tryz.ntmps134
  go_wp2_with fail
  go_quiet (fail)
  go_wp2_with fail
  obtain ⟨W, hW⟩ : ∃ W, W = w.drewN nq := ⟨_, rfl⟩
  have HW := Lib.hid (show Fr No w W by rw [hW]; exact (Fr.refl No w).drewN _)
  have c0 := HW.out.cell c0 (fun f => f)
  have c1 := HW.out.cell c1 (fun f => f)
  have c9 := HW.out.cell c9 (fun f => f)
  have c14 := HW.out.cell c14 (fun f => f)
  have z0 := (H.out.1.fr0 HW.out).free p
  rw [← hW]
  clear hW
  go_region_law
    (first
      | (go_simp; go_at_call_of 132 (Value.int IntKind.u32 (U x1)); refine (HS1.out _).mono ?_; rintro e w' ⟨rfl, rfl⟩)
      | (go_simp; go_at_call_of 132 (Value.int IntKind.u32 (U x14)); refine (HS2.out _).mono ?_; rintro e w' ⟨rfl, rfl⟩))
  all_goals
    go_wp2_with fail
    go_ret
    refine ⟨by rw [HN.out]; rfl, ?_, ?_⟩
    · rw [HN.out, H.out.2.1]
      have := (H.out.1.fr0 HW.out).set l0 v3
      rw [Nat.zero_add] at this
      exact this.fr0 ((Fr.refl No _).drew)
    · exact ((HW.out.mono fun _ _ f => f.elim).trans (Fr.set (F := fun k => k = b) (Fr.refl (fun k => k = b) W) ⟨b, p, none⟩ (.inl rfl) _ |>.mono fun k _ e => .inl e)).drew
end Go.Proofs.YtfaooohenicfbaaGreatDoor
