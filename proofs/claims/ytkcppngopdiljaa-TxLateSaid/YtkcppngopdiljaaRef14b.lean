/- Reference 14 (tx): Late. -/
import Derived.Test.YtkcppngopdiljaaRef14
import Derived.Test.YtkcppngopdiljaaRef13b
import Derived.Deep.RegionHeld3
set_option linter.unusedVariables false
set_option linter.unusedSimpArgs false
namespace Go.Proofs.Ytkcppngopdiljaa
open Go.RowKit

set_option maxHeartbeats 2000000 in
set_option maxRecDepth 100000 in
theorem ref_late {w : World} {F FM : Nat → Prop} {v u : Value} {base : Int} {ws : List Wr} {s : Sto} {m : Nat} (h : TxVal w F v base ws) (k : StoVal w FM u s) (hs : s.Fine m) (hm : m ≤ 100000000) (hn : ws.length ≤ 1000000) :
    Calls Try.prog 24 #[v, u] w fun e w' => e = .returned (.bool (ws.any fun x => decide (base < s.last x.key))) ∧ Fr No w w' := by
  have k0 := k
  obtain ⟨A, c, rfl, h1, h2⟩ := h
  obtain ⟨B1, d1, B2, d2, rfl, _⟩ := k
  have hnI : (ws.length : Int) ≤ 1000000 := by omega
  obtain ⟨W, hW⟩ : ∃ W, W = (w.alloc (.cells #[.int .i64 base, .slice A ws.length c] 34)).alloc (.cells #[.slice B1 s.kc.length d1, .slice B2 s.kc.length d2, .int .i64 s.now] 55) := ⟨_, rfl⟩
  have hf : Fr No w W := by rw [hW]; exact ((Fr.refl No w).alloc _).alloc _
  have hb0 : W.heap[w.heap.size]? = some (.cells #[.int .i64 base, .slice A ws.length c] 34 (0, 0)) := by rw [hW]; exact blk_two1 ..
  have hb1 : W.heap[w.heap.size + 1]? = some (.cells #[.slice B1 s.kc.length d1, .slice B2 s.kc.length d2, .int .i64 s.now] 55 (0, 0)) := by rw [hW]; exact blk_two2 ..
  have hlast := fun w' (f : Fr No W w') key => ref_last key ((k0.fr0 hf).fr0 f) hs hm
  have H := Lib.hid (And.intro (h2.fr0 hf) (And.intro hf (And.intro hb0 (And.intro hb1 hlast))))
  clear h2 hf hb0 hb1 hlast hs k0
  go_enter Try.func24, Try.ntmps24
  go_wp2_with fail
  rw [← hW]
  clear hW
  go_loopw [5] (fun i wr => ∃ k : Nat, k ≤ ws.length ∧ i = .int .i64 k ∧ Hid ((ws.take k).any (fun x => decide (base < s.last x.key)) = false ∧ Fr No W wr)) (fun i _ => ws.length - (intOf i).toNat)
  case atStart => exact ⟨0, Nat.zero_le _, rfl, rfl, Fr.refl _ _⟩
  case round =>
    obtain ⟨k, hk, rfl, I⟩ := hrel
    have hq0 : (0 : Int) ≤ (k : Int) := Int.natCast_nonneg _
    have hB0 := I.out.2.blk H.out.2.2.1 (fun f => f)
    have hB1 := I.out.2.blk H.out.2.2.2.1 (fun f => f)
    have a0 := blk_cell hB0 0
    have a1 := blk_cell hB0 1
    have b0 := blk_cell hB1 0
    have b1 := blk_cell hB1 1
    have b2 := blk_cell hB1 2
    simp at a0 a1 b0 b1 b2
    clear hB0 hB1
    by_cases hlt : k < ws.length
    · have hq1 : (k : Int) < (ws.length : Int) := by omega
      obtain ⟨ad, A', c', rfl, x0, _, _, _, _⟩ := wr_at (H.out.1.fr0 I.out.2) hlt
      have hany : (ws.take (k + 1)).any (fun x => decide (base < s.last x.key)) = decide (base < s.last ws[k].key) := by rw [List.take_succ_eq_append_getElem hlt, List.any_append, I.out.1]; simp
      have hall : decide (base < s.last ws[k].key) = true → ws.any (fun x => decide (base < s.last x.key)) = true := fun h => List.any_eq_true.2 ⟨_, List.getElem_mem hlt, h⟩
      obtain ⟨x, hx⟩ : ∃ x, ws[k] = x := ⟨_, rfl⟩
      rw [hx] at x0 hany hall
      obtain ⟨la, hla⟩ : ∃ la, s.last x.key = la := ⟨_, rfl⟩
      have hcall := fun w' (f : Fr No W w') => H.out.2.2.2.2 w' f x.key
      rw [hla] at hany hall
      simp only [hla] at hcall
      have HC := Lib.hid (And.intro hcall (And.intro hany hall))
      clear hcall hany hall hx hla
      have gI := I.out.2
      by_cases hd : base < la
      · go_wp2_with fail
        go_region_held3 (fun w' => w'.cell? ⟨w.heap.size, 0, none⟩ = some (.int .i64 base) ∧ w'.cell? ⟨w.heap.size, 1, none⟩ = some (.slice (some ad) ws.length c) ∧ w'.cell? ⟨w.heap.size + 1, 0, none⟩ = some (.slice B1 s.kc.length d1) ∧ w'.cell? ⟨w.heap.size + 1, 1, none⟩ = some (.slice B2 s.kc.length d2) ∧ w'.cell? ⟨w.heap.size + 1, 2, none⟩ = some (.int .i64 s.now) ∧ w'.cell? (ad.add (k * 3)) = some (.string x.key))
          (first
            | exact ⟨a0, a1, b0, b1, b2, x0⟩
            | exact ⟨q0, q1, q2, q3, q4, q5⟩)
          (first
            | (go_at_call 43; refine (HC.out.1 _ (by repeat (first | assumption | exact Fr.refl _ _ | apply Fr.drew | apply Fr.drewN))).mono ?_; rintro e7 w7 ⟨rfl, hf7⟩
               have g7 : Fr No W w7 := Fr.trans (by repeat (first | assumption | exact Fr.refl _ _ | apply Fr.drew | apply Fr.drewN)) (hf7.mono fun _ _ f => f.elim)
               have r7 : Fr No wr w7 := Fr.trans (by repeat (first | exact Fr.refl _ _ | apply Fr.drew | apply Fr.drewN)) (hf7.mono fun _ _ f => f.elim)
               have q0 := r7.cell a0 (fun f => f)
               have q1 := r7.cell a1 (fun f => f)
               have q2 := r7.cell b0 (fun f => f)
               have q3 := r7.cell b1 (fun f => f)
               have q4 := r7.cell b2 (fun f => f)
               have q5 := r7.cell x0 (fun f => f)
               clear hf7))
        all_goals
          go_wp2_with fail
          go_ret
          exact ⟨by rw [HC.out.2.2 (decide_eq_true hd)]; rfl, H.out.2.1.trans (Fr.mono (F := No) (by repeat (first | assumption | exact Fr.refl _ _ | apply Fr.drew | apply Fr.drewN)) fun _ _ f => f.elim)⟩
      · go_wp2_with fail
        go_region_held3 (fun w' => w'.cell? ⟨w.heap.size, 0, none⟩ = some (.int .i64 base) ∧ w'.cell? ⟨w.heap.size, 1, none⟩ = some (.slice (some ad) ws.length c) ∧ w'.cell? ⟨w.heap.size + 1, 0, none⟩ = some (.slice B1 s.kc.length d1) ∧ w'.cell? ⟨w.heap.size + 1, 1, none⟩ = some (.slice B2 s.kc.length d2) ∧ w'.cell? ⟨w.heap.size + 1, 2, none⟩ = some (.int .i64 s.now) ∧ w'.cell? (ad.add (k * 3)) = some (.string x.key))
          (first
            | exact ⟨a0, a1, b0, b1, b2, x0⟩
            | exact ⟨q0, q1, q2, q3, q4, q5⟩)
          (first
            | (go_at_call 43; refine (HC.out.1 _ (by repeat (first | assumption | exact Fr.refl _ _ | apply Fr.drew | apply Fr.drewN))).mono ?_; rintro e7 w7 ⟨rfl, hf7⟩
               have g7 : Fr No W w7 := Fr.trans (by repeat (first | assumption | exact Fr.refl _ _ | apply Fr.drew | apply Fr.drewN)) (hf7.mono fun _ _ f => f.elim)
               have r7 : Fr No wr w7 := Fr.trans (by repeat (first | exact Fr.refl _ _ | apply Fr.drew | apply Fr.drewN)) (hf7.mono fun _ _ f => f.elim)
               have q0 := r7.cell a0 (fun f => f)
               have q1 := r7.cell a1 (fun f => f)
               have q2 := r7.cell b0 (fun f => f)
               have q3 := r7.cell b1 (fun f => f)
               have q4 := r7.cell b2 (fun f => f)
               have q5 := r7.cell x0 (fun f => f)
               clear hf7))
        all_goals
          go_wp2_with fail
          go_roundw
          case rel => exact ⟨k + 1, by omega, by go_num, by rw [HC.out.2.1]; exact decide_eq_false (by omega), by show Fr No W _; exact (by repeat (first | assumption | exact Fr.refl _ _ | apply Fr.drew | apply Fr.drewN))⟩
          case measure => simp [intOf]; omega
    · obtain rfl : k = ws.length := by omega
      have hI := I.out.1
      rw [List.take_length] at hI
      have HI := Lib.hid (And.intro hI I.out.2)
      clear hI
      go_wp2_with fail
      go_ret
      exact ⟨by rw [HI.out.1]; rfl, H.out.2.1.trans (HI.out.2.mono fun _ _ f => f.elim)⟩
end Go.Proofs.Ytkcppngopdiljaa
