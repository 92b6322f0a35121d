/- Reference 6 (record): Right. -/
import Derived.Test.YtkcppngopdiljaaRef1
import Derived.Test.YtkcppngopdiljaaRight
import Derived.IntWalk
set_option linter.unusedVariables false
set_option linter.unusedSimpArgs false
namespace Go.Proofs.Ytkcppngopdiljaa
open Go.RowKit

theorem kl_empty (k : ByteArray) : kl ⟨#[]⟩ k = decide (1 ≤ k.size) := by
  rw [kl_eq, toList_data, toList_data]
  cases k with
  | mk d => cases d with
    | mk l => cases l with
      | nil => rfl
      | cons x l =>
        rw [Bool.eq_iff_iff]
        constructor
        · intro _; exact decide_eq_true (by show 1 ≤ l.length + 1; omega)
        · intro _; exact decide_eq_true (List.nil_lt_cons _ _)

set_option maxHeartbeats 4000000 in
set_option maxRecDepth 100000 in
theorem ref_right {w : World} {F : Nat → Prop} (n : Int) (A : Option Addr) (c : Nat) (ws : List Wr) (h : Rd tWr w F A ws) (hl : ws.length ≤ 1000000000) (hk : ∀ x ∈ ws, x.key.size ≤ 9223372036854775807) :
    Calls Try.prog 60 #[.agg #[.int .i64 n, .slice A ws.length c]] w fun e w' => e = .returned (.bool (right n ws)) ∧ Fr No w w' := by
  have hlI : (ws.length : Int) ≤ 1000000000 := by omega
  by_cases h1 : 1 ≤ n
  · by_cases h2 : (1 : Int) ≤ (ws.length : Int)
    · by_cases h3 : (ws.length : Int) ≤ 64
      · have H := Lib.hid (And.intro h hk)
        clear h hk
        go_enter Try.func60, Try.ntmps60
        go_wp2
        go_loopw [3] (fun i wr => ∃ k : Nat, k ≤ ws.length ∧ i = .int .i64 k ∧ Hid (allFit ⟨#[]⟩ (ws.take k) = true) ∧ Hid (Fr No (w.alloc (.cells #[.int .i64 n, .slice A ws.length c] 40)) wr)) (fun i _ => ws.length - (intOf i).toNat)
        case atStart => exact ⟨0, Nat.zero_le _, rfl, rfl, Fr.refl _ _⟩
        case round =>
          obtain ⟨k, hkl, rfl, hA, hf⟩ := hrel
          have hb := hf.out.blk (heap_alloc_new w (.cells #[.int .i64 n, .slice A ws.length c] 40)) (fun f => f)
          have b0 := blk_cell hb 0
          have b1 := blk_cell hb 1
          simp at b0 b1
          have hfw : Fr No w wr := ((Fr.refl No w).alloc _).trans (hf.out.mono fun _ _ f => f.elim)
          have hq0 : (0 : Int) ≤ (k : Int) := Int.natCast_nonneg _
          by_cases hlt : k < ws.length
          · obtain ⟨ad, A', c', rfl, x0, x1, x2, hc', hrd⟩ := wr_at (H.out.1.fr0 hfw) hlt
            have hq1 : (k : Int) < (ws.length : Int) := by omega
            have hfit := allFit_take (last := ⟨#[]⟩) hlt
            rw [hA.out, Bool.true_and] at hfit
            have hks := H.out.2 _ (List.getElem_mem hlt)
            have hrs : ws[k].row.length ≤ 9223372036854775807 := hrd.1
            have hno : fits ws[k] (lastKey ⟨#[]⟩ (ws.take k)) = false → right n ws = false := fun hfx => by
              have : allFit ⟨#[]⟩ ws = false := by
                cases hA : allFit ⟨#[]⟩ ws with
                | false => rfl
                | true => have := allFit_prefix (k + 1) hA; rw [hfit, hfx] at this; cases this
              unfold right
              rw [this]; rfl
            obtain ⟨x, hx⟩ : ∃ x, ws[k] = x := ⟨_, rfl⟩
            rw [hx] at x0 x1 x2 hfit hks hno hrs hrd
            obtain ⟨W, hW⟩ : ∃ W, W = wr.alloc (.cells #[.string x.key, .slice A' x.row.length c', .bool x.gone] 43) := ⟨_, rfl⟩
            have hfW : Fr No wr W := by rw [hW]; exact (Fr.refl No wr).alloc _
            have hbW : W.heap[wr.heap.size]? = some (.cells #[.string x.key, .slice A' x.row.length c', .bool x.gone] 43 (0, 0)) := by rw [hW]; exact heap_alloc_new wr _
            have e0 := blk_cell hbW 0
            have e1 := blk_cell hbW 1
            have e2 := blk_cell hbW 2
            simp at e0 e1 e2
            have g1 : W.cell? ⟨w.heap.size, 1, none⟩ = some (.slice (some ad) ws.length c) := hfW.cell b1 (fun f => f)
            have hfr2 : Fr No (w.alloc (.cells #[.int .i64 n, .slice (some ad) ws.length c] 40)) W := hf.out.trans (hfW.mono fun _ _ f => f.elim)
            have hprev : ∀ j, k = j + 1 → W.cell? (ad.add (j * 3)) = some (.string (lastKey ⟨#[]⟩ (ws.take k))) := by
              rintro j rfl
              obtain ⟨ad2, A2, c2, e, y0, _⟩ := wr_at (H.out.1.fr0 hfw) (i := j) (by omega)
              obtain rfl := Option.some.inj e
              rw [lastKey_take (by omega)]
              exact hfW.cell y0 (fun f => f)
            have HX := Lib.hid (And.intro hfit (And.intro hno (And.intro hfr2 (hfw.trans (hfW.mono fun _ _ f => f.elim)))))
            have HP := Lib.hid hprev
            clear hfit hno hfr2 hx hbW hfW hprev hc' hrd hb
            obtain ⟨lk, hlk⟩ : ∃ lk, lastKey ⟨#[]⟩ (ws.take k) = lk := ⟨_, rfl⟩
            have hl0 : k = 0 → lk = ⟨#[]⟩ := by rintro rfl; rw [← hlk]; rfl
            rw [hlk] at HX HP
            clear hlk
            have z0 : (0 : Int) ≤ (x.key.size : Int) := Int.natCast_nonneg _
            have z1 : (0 : Int) ≤ (x.row.length : Int) := Int.natCast_nonneg _
            by_cases q1 : x.key.size < 1
            · have c1 : decide ((x.key.size : Int) < 1) = true := decide_eq_true (by omega)
              have HF := Lib.hid (HX.out.2.1 (by unfold fits; rw [decide_eq_false (show ¬ 1 ≤ x.key.size by omega)]; rfl))
              go_wp2
              rw [← hW]
              clear hW
              go_quiet (fail)
              go_wp2
              go_ret
              exact ⟨by rw [HF.out]; rfl, HX.out.2.2.2.drewN _⟩
            have c1 : decide ((x.key.size : Int) < 1) = false := decide_eq_false (by omega)
            by_cases q2 : 4000 < x.key.size
            · have c2 : decide ((4000 : Int) < (x.key.size : Int)) = true := decide_eq_true (by omega)
              have HF := Lib.hid (HX.out.2.1 (by unfold fits; rw [decide_eq_false (show ¬ x.key.size ≤ 4000 by omega)]; simp))
              go_wp2
              rw [← hW]
              clear hW
              go_quiet (fail)
              go_wp2
              go_ret
              exact ⟨by rw [HF.out]; rfl, HX.out.2.2.2.drewN _⟩
            have c2 : decide ((4000 : Int) < (x.key.size : Int)) = false := decide_eq_false (by omega)
            by_cases q3 : 4000 < x.row.length
            · have c3 : decide ((4000 : Int) < (x.row.length : Int)) = true := decide_eq_true (by omega)
              have HF := Lib.hid (HX.out.2.1 (by unfold fits; rw [decide_eq_false (show ¬ x.row.length ≤ 4000 by omega)]; simp))
              go_wp2
              rw [← hW]
              clear hW
              go_quiet (fail)
              go_wp2
              go_ret
              exact ⟨by rw [HF.out]; rfl, HX.out.2.2.2.drewN _⟩
            have c3 : decide ((4000 : Int) < (x.row.length : Int)) = false := decide_eq_false (by omega)
            cases hg : x.gone
            · rw [hg] at e2 hW x2
              rcases Nat.eq_zero_or_pos k with k0 | k0
              · have c5 : decide ((0 : Int) < (k : Int)) = false := decide_eq_false (by omega)
                have c7 : decide (0 < k) = false := decide_eq_false (by omega)
                have c8 : ¬ 0 < k := by omega
                have hlE := hl0 k0
                clear k0 hl0
                have HF : Hid (fits x lk = true) := by show _ = _; unfold fits; rw [decide_eq_true (show 1 ≤ x.key.size by omega), decide_eq_true (show x.key.size ≤ 4000 by omega), decide_eq_true (show x.row.length ≤ 4000 by omega), hlE, kl_empty, decide_eq_true (show 1 ≤ x.key.size by omega), hg]; simp
                go_wp2
                rw [← hW]
                clear hW
                go_quiet (fail)
                go_wp2
                go_roundw
                case rel => exact ⟨k + 1, by omega, by go_num, by show _ = _; rw [HX.out.1]; exact HF.out, HX.out.2.2.1.drewN _⟩
                case measure => simp [intOf]; omega
              · obtain ⟨j, rfl⟩ : ∃ j, k = j + 1 := ⟨k - 1, by omega⟩
                have c5 : decide ((0 : Int) < ((j + 1 : Nat) : Int)) = true := decide_eq_true (by omega)
                have c6 : decide ((0 : Int) < (j : Int) + 1) = true := decide_eq_true (by omega)
                have y0 := HP.out j rfl
                have j0 : (0 : Int) ≤ (j : Int) := Int.natCast_nonneg _
                have j1 : (j : Int) < (ws.length : Int) := by omega
                have j2 : IntKind.i64.wrap (j : Int) = (j : Int) := IntWalk.i64_in _ (by omega)
                have j3 : j < ws.length := by omega
                have hkl := kl_not x.key lk
                cases h5 : Op.bytesLess x.key.toList lk.toList <;> cases h6 : (x.key.toList == lk.toList)
                case false.false =>
                  rw [h5, h6] at hkl
                  have HF : Hid (fits x lk = true) := by show _ = _; unfold fits; rw [decide_eq_true (show 1 ≤ x.key.size by omega), decide_eq_true (show x.key.size ≤ 4000 by omega), decide_eq_true (show x.row.length ≤ 4000 by omega), ← hkl, hg]; simp
                  go_wp2
                  rw [← hW]
                  clear hW
                  go_quiet (fail)
                  go_wp2
                  go_roundw
                  case rel => exact ⟨j + 1 + 1, by omega, by go_num, by show _ = _; rw [HX.out.1]; exact HF.out, HX.out.2.2.1.drewN _⟩
                  case measure => simp [intOf]; omega
                all_goals
                  rw [h5, h6] at hkl
                  have HF := Lib.hid (HX.out.2.1 (by unfold fits; rw [← hkl]; simp))
                  go_wp2
                  rw [← hW]
                  clear hW
                  go_quiet (fail)
                  go_wp2
                  go_ret
                  exact ⟨by rw [HF.out]; rfl, HX.out.2.2.2.drewN _⟩
            · rw [hg] at e2 hW x2
              by_cases q4 : 0 < x.row.length
              · have c4 : decide ((0 : Int) < (x.row.length : Int)) = true := decide_eq_true (by omega)
                have HF := Lib.hid (HX.out.2.1 (by unfold fits; rw [hg, decide_eq_false (show ¬ x.row.length = 0 by omega)]; simp))
                go_wp2
                rw [← hW]
                clear hW
                go_quiet (fail)
                go_wp2
                go_ret
                exact ⟨by rw [HF.out]; rfl, HX.out.2.2.2.drewN _⟩
              have c4 : decide ((0 : Int) < (x.row.length : Int)) = false := decide_eq_false (by omega)
              rcases Nat.eq_zero_or_pos k with k0 | k0
              · have c5 : decide ((0 : Int) < (k : Int)) = false := decide_eq_false (by omega)
                have c7 : decide (0 < k) = false := decide_eq_false (by omega)
                have c8 : ¬ 0 < k := by omega
                have hlE := hl0 k0
                clear k0 hl0
                have HF : Hid (fits x lk = true) := by show _ = _; unfold fits; rw [decide_eq_true (show 1 ≤ x.key.size by omega), decide_eq_true (show x.key.size ≤ 4000 by omega), decide_eq_true (show x.row.length ≤ 4000 by omega), hlE, kl_empty, decide_eq_true (show 1 ≤ x.key.size by omega), hg, decide_eq_true (show x.row.length = 0 by omega)]; simp
                go_wp2
                rw [← hW]
                clear hW
                go_quiet (fail)
                go_wp2
                go_roundw
                case rel => exact ⟨k + 1, by omega, by go_num, by show _ = _; rw [HX.out.1]; exact HF.out, HX.out.2.2.1.drewN _⟩
                case measure => simp [intOf]; omega
              · obtain ⟨j, rfl⟩ : ∃ j, k = j + 1 := ⟨k - 1, by omega⟩
                have c5 : decide ((0 : Int) < ((j + 1 : Nat) : Int)) = true := decide_eq_true (by omega)
                have c6 : decide ((0 : Int) < (j : Int) + 1) = true := decide_eq_true (by omega)
                have y0 := HP.out j rfl
                have j0 : (0 : Int) ≤ (j : Int) := Int.natCast_nonneg _
                have j1 : (j : Int) < (ws.length : Int) := by omega
                have j2 : IntKind.i64.wrap (j : Int) = (j : Int) := IntWalk.i64_in _ (by omega)
                have j3 : j < ws.length := by omega
                have hkl := kl_not x.key lk
                cases h5 : Op.bytesLess x.key.toList lk.toList <;> cases h6 : (x.key.toList == lk.toList)
                case false.false =>
                  rw [h5, h6] at hkl
                  have HF : Hid (fits x lk = true) := by show _ = _; unfold fits; rw [decide_eq_true (show 1 ≤ x.key.size by omega), decide_eq_true (show x.key.size ≤ 4000 by omega), decide_eq_true (show x.row.length ≤ 4000 by omega), ← hkl, hg, decide_eq_true (show x.row.length = 0 by omega)]; simp
                  go_wp2
                  rw [← hW]
                  clear hW
                  go_quiet (fail)
                  go_wp2
                  go_roundw
                  case rel => exact ⟨j + 1 + 1, by omega, by go_num, by show _ = _; rw [HX.out.1]; exact HF.out, HX.out.2.2.1.drewN _⟩
                  case measure => simp [intOf]; omega
                all_goals
                  rw [h5, h6] at hkl
                  have HF := Lib.hid (HX.out.2.1 (by unfold fits; rw [← hkl]; simp))
                  go_wp2
                  rw [← hW]
                  clear hW
                  go_quiet (fail)
                  go_wp2
                  go_ret
                  exact ⟨by rw [HF.out]; rfl, HX.out.2.2.2.drewN _⟩
          · obtain rfl : k = ws.length := by omega
            rw [List.take_length] at hA
            have hr : right n ws = true := by
              unfold right
              rw [hA.out, decide_eq_true h1, decide_eq_true (show 1 ≤ ws.length by omega), decide_eq_true (show ws.length ≤ 64 by omega)]; rfl
            have HR := Lib.hid hr
            clear hr
            go_wp2
            go_ret
            exact ⟨by rw [HR.out]; rfl, hfw⟩
      · have hr : right n ws = false := by
          unfold right
          rw [decide_eq_false (show ¬ ws.length ≤ 64 by omega)]; simp
        rw [hr]
        go_enter Try.func60, Try.ntmps60
        go_wp2
        go_ret
        exact ⟨rfl, (Fr.refl No w).alloc _⟩
    · have hr : right n ws = false := by
        unfold right
        rw [decide_eq_false (show ¬ 1 ≤ ws.length by omega)]; simp
      rw [hr]
      go_enter Try.func60, Try.ntmps60
      go_wp2
      go_ret
      exact ⟨rfl, (Fr.refl No w).alloc _⟩
  · have hr : right n ws = false := by
      unfold right
      rw [decide_eq_false h1]; simp
    rw [hr]
    go_enter Try.func60, Try.ntmps60
    go_wp2
    go_ret
    exact ⟨rfl, (Fr.refl No w).alloc _⟩
end Go.Proofs.Ytkcppngopdiljaa
