/- Reference 06 (record): Same, of two batches of the same writes. -/
import Derived.Test.YtkcppngopdiljaaRef06b
import Derived.Test.YtkcppngopdiljaaTx4
import Derived.Deep.RegionHeld3
import Derived.Deep.DeepCutAuto
set_option linter.unusedVariables false
set_option linter.unusedSimpArgs false
namespace Go.Proofs.Ytkcppngopdiljaa
open Go.RowKit

theorem Rd.wrO {w : World} {F : Nat → Prop} {A : Option Addr} {ws : List Wr} (h : Rd tWrO w F A ws) : Rd tWr w F A ws := by
  obtain ⟨h0, cs, h1, h2⟩ := h
  refine ⟨h0, cs, ?_, h2⟩
  clear h2 h0
  induction ws generalizing cs with
  | nil => exact h1
  | cons x ws ih =>
    obtain ⟨c, d, rfl, hx, hd⟩ := h1
    obtain ⟨A', c', rfl, ho⟩ := tWrO_open hx
    exact ⟨_, d, rfl, tWr_mk (a := x.key) (r := x.row) (g := x.gone) ho.rd.2.1 ho.rd.2.2, ih d hd⟩

/-- Two writes alike, in boxes of their own. -/
structure SBox (wr wx : World) (b6 b7 : Nat) (x : Wr) : Prop where
  fr : Fr No wr wx
  box6 : ∃ A c, wx.heap[b6]? = some (.cells #[.string x.key, .slice A x.row.length c, .bool x.gone] 43 (0, 0)) ∧ Rd Ty.u8 wx (fun i => i < wr.heap.size) A x.row
  box7 : ∃ A c, wx.heap[b7]? = some (.cells #[.string x.key, .slice A x.row.length c, .bool x.gone] 43 (0, 0)) ∧ Rd Ty.u8 wx (fun i => i < wr.heap.size) A x.row

set_option maxHeartbeats 4000000 in
set_option maxRecDepth 100000 in
theorem ref_same {w : World} {F G : Nat → Prop} {A B : Option Addr} {c d : Nat} {l : List Wr} (n : Int) (h : Rd tWr w F A l) (k : Rd tWr w G B l) :
    Calls Try.prog 17 #[.agg #[.int .i64 n, .slice A l.length c], .agg #[.int .i64 n, .slice B l.length d]] w fun e w' => e = .returned (.bool true) ∧ Fr No w w' := by
  have hl0 := h.1
  have hlI : (l.length : Int) ≤ 9223372036854775807 := by omega
  obtain ⟨W, hW⟩ : ∃ W, W = (w.alloc (.cells #[.int .i64 n, .slice A l.length c] 40)).alloc (.cells #[.int .i64 n, .slice B l.length d] 40) := ⟨_, rfl⟩
  have hf : Fr No w W := by rw [hW]; exact ((Fr.refl No w).alloc _).alloc _
  have hb0 : W.heap[w.heap.size]? = some (.cells #[.int .i64 n, .slice A l.length c] 40 (0, 0)) := by rw [hW]; exact blk_two1 ..
  have hb1 : W.heap[w.heap.size + 1]? = some (.cells #[.int .i64 n, .slice B l.length d] 40 (0, 0)) := by rw [hW]; exact blk_two2 ..
  have hnn : (n != n) = false := by simp
  have H := Lib.hid (And.intro (h.fr0 hf) (And.intro (k.fr0 hf) (And.intro hf (And.intro hb0 hb1))))
  have g0 := blk_cell hb0 0
  have g1 := blk_cell hb0 1
  have k0 := blk_cell hb1 0
  have k1 := blk_cell hb1 1
  simp at g0 g1 k0 k1
  clear h k hf hb0 hb1
  go_enter Try.func17, Try.ntmps17
  subst hW
  go_wp2_with fail
  go_loopw [5] (fun i wr => ∃ k : Nat, k ≤ l.length ∧ i = .int .i64 k ∧ Hid (Fr No ((w.alloc (.cells #[.int .i64 n, .slice A l.length c] 40)).alloc (.cells #[.int .i64 n, .slice B l.length d] 40)) wr)) (fun i _ => l.length - (intOf i).toNat)
  case atStart => exact ⟨0, Nat.zero_le _, rfl, Fr.refl _ _⟩
  case round =>
    obtain ⟨k, hk, rfl, hfr⟩ := hrel
    have hq0 : (0 : Int) ≤ (k : Int) := Int.natCast_nonneg _
    have hB0 := hfr.out.blk H.out.2.2.2.1 (fun f => f)
    have hB1 := hfr.out.blk H.out.2.2.2.2 (fun f => f)
    have a1 := blk_cell hB0 1
    have b1 := blk_cell hB1 1
    simp at a1 b1
    clear hB0 hB1
    by_cases hlt : k < l.length
    · have hq1 : (k : Int) < (l.length : Int) := by omega
      obtain ⟨ad, A', c', rfl, x0, x1, x2, hc', hr'⟩ := wr_at (H.out.1.fr0 hfr.out) hlt
      obtain ⟨ad2, A2, c2, rfl, y0, y1, y2, hc2, hr2⟩ := wr_at (H.out.2.1.fr0 hfr.out) hlt
      obtain ⟨x, hx⟩ : ∃ x, l[k] = x := ⟨_, rfl⟩
      rw [hx] at x0 x1 x2 hr' y0 y1 y2 hr2
      have HR := Lib.hid (And.intro (hr'.mono (G := fun i => i < wr.heap.size) fun i _ hl => hl) (hr2.mono (G := fun i => i < wr.heap.size) fun i _ hl => hl))
      clear hr' hr2 hc' hc2 hx
      have hcy := fun w' (f : Fr No wr w') => And.intro (f.cell a1 (fun f => f)) (And.intro (f.cell b1 (fun f => f)) (And.intro (f.cell x0 (fun f => f)) (And.intro (f.cell x1 (fun f => f)) (And.intro (f.cell x2 (fun f => f)) (And.intro (f.cell y0 (fun f => f)) (And.intro (f.cell y1 (fun f => f)) (f.cell y2 (fun f => f))))))))
      have HC := Lib.hid hcy
      clear hcy
      go_wp2_with fail
      go_cut [6, 7] (fun s6 s7 wx => ∃ b6 b7 : Nat, s6 = .pointer (some ⟨b6, 0, none⟩) ∧ s7 = .pointer (some ⟨b7, 0, none⟩) ∧ Hid (SBox wr wx b6 b7 x))
      case first =>
        go_region_held3 (fun w' => w'.cell? ⟨w.heap.size, 1, none⟩ = some (.slice (some ad) l.length c) ∧ w'.cell? ⟨w.heap.size + 1, 1, none⟩ = some (.slice (some ad2) l.length d) ∧ w'.cell? (ad.add (k * 3)) = some (.string x.key) ∧ w'.cell? ⟨(ad.add (k * 3)).block, (ad.add (k * 3)).off + 1, none⟩ = some (.slice A' x.row.length c') ∧ w'.cell? ⟨(ad.add (k * 3)).block, (ad.add (k * 3)).off + 2, none⟩ = some (.bool x.gone) ∧
            w'.cell? (ad2.add (k * 3)) = some (.string x.key) ∧ w'.cell? ⟨(ad2.add (k * 3)).block, (ad2.add (k * 3)).off + 1, none⟩ = some (.slice A2 x.row.length c2) ∧ w'.cell? ⟨(ad2.add (k * 3)).block, (ad2.add (k * 3)).off + 2, none⟩ = some (.bool x.gone))
          (exact HC.out _ (by repeat (first | exact Fr.refl _ _ | apply Fr.alloc | apply Fr.drew | apply Fr.drewN | refine Fr.set ?_ _ (.inr (by simp)) _)))
          (fail)
        all_goals go_wp2_with fail
        all_goals go_meet
        all_goals first
          | exact ⟨_, _, rfl, rfl, ⟨(by repeat (first | exact Fr.refl _ _ | apply Fr.alloc | apply Fr.drew | apply Fr.drewN | refine Fr.set ?_ _ (.inr (by simp)) _)), ⟨_, _, blk_two1 wr _ _, HR.out.1.fr0 (by repeat (first | exact Fr.refl _ _ | apply Fr.alloc | apply Fr.drew | apply Fr.drewN | refine Fr.set ?_ _ (.inr (by simp)) _))⟩, ⟨_, _, blk_two2 wr _ _, HR.out.2.fr0 (by repeat (first | exact Fr.refl _ _ | apply Fr.alloc | apply Fr.drew | apply Fr.drewN | refine Fr.set ?_ _ (.inr (by simp)) _))⟩⟩⟩
          | exact ⟨_, _, rfl, rfl, ⟨(by repeat (first | exact Fr.refl _ _ | apply Fr.alloc | apply Fr.drew | apply Fr.drewN | refine Fr.set ?_ _ (.inr (by simp)) _)), ⟨_, _, blk_two2 wr _ _, HR.out.1.fr0 (by repeat (first | exact Fr.refl _ _ | apply Fr.alloc | apply Fr.drew | apply Fr.drewN | refine Fr.set ?_ _ (.inr (by simp)) _))⟩, ⟨_, _, blk_two1 wr _ _, HR.out.2.fr0 (by repeat (first | exact Fr.refl _ _ | apply Fr.alloc | apply Fr.drew | apply Fr.drewN | refine Fr.set ?_ _ (.inr (by simp)) _))⟩⟩⟩
      case rest =>
        obtain ⟨b6, b7, rfl, rfl, HB⟩ := hcut
        obtain ⟨A6, c6, hb6, hr6⟩ := HB.out.box6
        obtain ⟨A7, c7, hb7, hr7⟩ := HB.out.box7
        have d0 := blk_cell hb6 0
        have d1 := blk_cell hb6 1
        have d2 := blk_cell hb6 2
        have e0 := blk_cell hb7 0
        have e1 := blk_cell hb7 1
        have e2 := blk_cell hb7 2
        simp at d0 d1 d2 e0 e1 e2
        have hgg : (x.gone != x.gone) = false := by simp
        have hby := ref_bytes_q (c := c6) (d := c7) hr6 hr7
        simp only [decide_true] at hby
        have HBy := Lib.hid hby
        clear hby hb6 hb7 hr6 hr7 x0 x1 x2 y0 y1 y2 a1 b1
        go_wp2_with fail
        refine HBy.out.mono ?_
        rintro e9 w9 ⟨rfl, m9, rfl⟩
        go_wp2_with fail
        go_roundw
        case rel => exact ⟨k + 1, by omega, by go_num, hfr.out.trans ((HB.out.fr.drewN _).mono fun _ _ f => f.elim)⟩
        case measure => simp [intOf]; omega
    · obtain rfl : k = l.length := by omega
      go_wp2_with fail
      go_ret
      exact ⟨rfl, H.out.2.2.1.trans (hfr.out.mono fun _ _ f => f.elim)⟩
end Go.Proofs.Ytkcppngopdiljaa
