/- history.Times in general, and the reference's. -/
import Derived.Test.YtfaooohenicfbaaGreatDoorSpec19
import Derived.BigQuiet
set_option linter.unusedVariables false
set_option linter.unusedSimpArgs false
namespace Go.Proofs.YtfaooohenicfbaaGreatDoor
open Go.RowKit

set_option maxHeartbeats 4000000 in
set_option maxRecDepth 100000 in
theorem timed_fn {w : World} (x : En) : Calls Tryz.prog 27 #[x.val] w fun e w' => e = .returned (.bool (timed x)) ∧ Fr No w w' := by
  have hw := Lib.hid (Fr.refl No w)
  have HT := Lib.hid (show timed x = _ from rfl)
  obtain ⟨cl, kd, bg, pt, en, tn⟩ := x
  by_cases h1 : pt = 0
  · subst h1
    by_cases h3 : 0 < bg <;> by_cases h4 : en = 0
    all_goals
      have h4' : (en == 0) = decide (en = 0) := rfl
      first | rw [decide_eq_true h4] at h4' | rw [decide_eq_false h4] at h4'
      go_enter Tryz.func27, Tryz.ntmps27
      go_wp2_with fail
      go_ret
      exact ⟨by simp [timed, h3, h4], hw.out.alloc _⟩
  · have h1' : (pt == 0) = false := beq_eq_false_iff_ne.2 h1
    by_cases h4 : en = 0
    · subst h4
      by_cases h2 : bg ≤ pt <;> by_cases h3 : 0 < bg
      all_goals first
        | (exfalso; omega)
        | (go_enter Tryz.func27, Tryz.ntmps27
           go_wp2_with fail
           go_ret
           exact ⟨by simp [timed, *] <;> omega, hw.out.alloc _⟩)
    · have h4' : (en == 0) = false := beq_eq_false_iff_ne.2 h4
      by_cases h5 : 0 < pt
      · by_cases h6 : pt ≤ en <;> by_cases h2 : bg ≤ pt <;> by_cases h3 : 0 < bg
        all_goals first
          | (exfalso; omega)
          | (go_enter Tryz.func27, Tryz.ntmps27
             go_wp2_with fail
             go_ret
             exact ⟨by simp [timed, *] <;> omega, hw.out.alloc _⟩)
      · by_cases h2 : bg ≤ pt <;> by_cases h3 : 0 < bg
        all_goals first
          | (exfalso; omega)
          | (go_enter Tryz.func27, Tryz.ntmps27
             go_wp2_with fail
             go_ret
             exact ⟨by simp [timed, *] <;> omega, hw.out.alloc _⟩)

theorem zero_en (w : World) : (zeroValue 41).run Tryz.prog w = .ok zeroEn w := by kernel_rfl
abbrev enO (x : En) : Obj := .cells #[.int .i64 x.cl, .int .u8 x.kd, .int .i64 0, .slice none 0 0, .string ⟨#[]⟩, .int .i64 0, .int .i64 0, .bool false, .slice none 0 0, .slice none 0 0, .slice none 0 0, .int .i64 x.bg, .int .i64 x.pt, .int .i64 x.en, .int .i64 x.tn] 41
theorem en_of_blk {w : World} {b : Nat} {x : En} {t : TypeId} {fr : Nat × Nat} (h : w.heap[b]? = some (.cells #[.int .i64 x.cl, .int .u8 x.kd, .int .i64 0, .slice none 0 0, .string ⟨#[]⟩, .int .i64 0, .int .i64 0, .bool false, .slice none 0 0, .slice none 0 0, .slice none 0 0, .int .i64 x.bg, .int .i64 x.pt, .int .i64 x.en, .int .i64 x.tn] t fr)) :
    w.cell? ⟨b, 0, none⟩ = some (.int .i64 x.cl) ∧ w.cell? ⟨b, 1, none⟩ = some (.int .u8 x.kd) ∧ w.cell? ⟨b, 2, none⟩ = some (.int .i64 0) ∧ w.cell? ⟨b, 3, none⟩ = some (.slice none 0 0) ∧ w.cell? ⟨b, 4, none⟩ = some (.string ⟨#[]⟩) ∧ w.cell? ⟨b, 5, none⟩ = some (.int .i64 0) ∧ w.cell? ⟨b, 6, none⟩ = some (.int .i64 0) ∧ w.cell? ⟨b, 7, none⟩ = some (.bool false) ∧ w.cell? ⟨b, 8, none⟩ = some (.slice none 0 0) ∧ w.cell? ⟨b, 9, none⟩ = some (.slice none 0 0) ∧ w.cell? ⟨b, 10, none⟩ = some (.slice none 0 0) ∧ w.cell? ⟨b, 11, none⟩ = some (.int .i64 x.bg) ∧ w.cell? ⟨b, 12, none⟩ = some (.int .i64 x.pt) ∧ w.cell? ⟨b, 13, none⟩ = some (.int .i64 x.en) ∧ w.cell? ⟨b, 14, none⟩ = some (.int .i64 x.tn) :=
  ⟨blk_cell h 0, blk_cell h 1, blk_cell h 2, blk_cell h 3, blk_cell h 4, blk_cell h 5, blk_cell h 6, blk_cell h 7, blk_cell h 8, blk_cell h 9, blk_cell h 10, blk_cell h 11, blk_cell h 12, blk_cell h 13, blk_cell h 14⟩
theorem blk_of1 (w : World) (o o' : Obj) : ((w.alloc o).alloc o').heap[w.heap.size]? = some o := by
  rw [Below.heap_alloc _ _ _ (by simp)]; exact heap_alloc_new w o
theorem blk_of2 (w : World) (o o' : Obj) : ((w.alloc o).alloc o').heap[w.heap.size + 1]? = some o' := by
  have := heap_alloc_new (w.alloc o) o'; rwa [World.size_alloc] at this

set_option maxHeartbeats 4000000 in
set_option maxRecDepth 100000 in
theorem times_ok {w : World} {F : Nat → Prop} {A : Option Addr} {c : Nat} {l : List En} (h : Rd tEn w F A l) : Calls Tryz.prog 13 #[.slice A l.length c] w fun e w' => e = .returned (.bool (timesP [] l)) ∧ Fr No w w' := by
  have H := Lib.hid h
  have hmm := @run_makeMap Tryz.prog
  have HT := Lib.hid fun (w : World) (x : En) => timed_fn (w := w) x
  have hl63 := h.1
  have hl63i : (l.length : Int) ≤ 9223372036854775807 := by omega
  clear h hl63
  go_enter Tryz.func13, Tryz.ntmps13
  go_wp2_with fail
  go_loopw [11] (fun iv wr => ∃ k : Nat, k ≤ l.length ∧ iv = .int .i64 (k : Int) ∧ Hid (∃ last, MapII wr w.heap.size (valM last) ∧ timesP [] l = timesP last (l.drop k) ∧ Fr No w wr)) (fun iv _ => l.length - (intOf iv).toNat)
  case atStart => exact ⟨0, Nat.zero_le _, rfl, [], (MapII.new w), rfl, (Fr.refl No w).alloc _⟩
  case round =>
    obtain ⟨k, hk, rfl, I⟩ := hrel
    have hk0 : (0 : Int) ≤ (k : Int) := Int.natCast_nonneg _
    by_cases hlt : k < l.length
    · have hk1 : (k : Int) < (l.length : Int) := by omega
      obtain ⟨last, hM, hT, hwr⟩ := I.out
      obtain ⟨ad, rfl, ea⟩ := en_at (H.out.fr0 hwr) hlt
      have hdrop : l.drop k = l[k] :: l.drop (k + 1) := List.drop_eq_getElem_cons hlt
      obtain ⟨x, hx⟩ : ∃ x, l[k] = x := ⟨_, rfl⟩
      rw [hx] at ea hdrop
      rw [hdrop] at hT
      obtain ⟨c0, c1, c2, c3, c4, c5, c6, c7, c8, c9, c10, c11, c12, c13, c14⟩ := ea
      have hM1 : MapII (wr.alloc (enO x)) w.heap.size (valM last) := hM.stab (Below.heap_alloc _ _ _ hM.lt)
      have hlk := (run_map_lookI (P := Tryz.prog) hM1 69 _ _ Tryz.underlying69 Tryz.underlying3 _ (zero_en _) x.cl).2
      rw [look_valM] at hlk
      have hlk0 : (Instr.lookup 69 (.map (some w.heap.size)) (.int .i64 x.cl) true).run Tryz.prog (wr.alloc (enO x)) = _ := hlk
      have HI := Lib.hid (And.intro hM1 (And.intro hwr I.out))
      clear hlk hM hM1 hwr hdrop hx
      cases hl : lookI x.cl last with
      | none =>
        rw [hl] at hlk0
        simp only [Option.map_none, Option.getD_none, Option.isSome_none] at hlk0
        have HL := Lib.hid (And.intro hl hT)
        clear hl hT
        go_wp2_with fail
        refine (HT.out _ x).mono ?_
        rintro e w3 ⟨rfl, hf3⟩
        have b1 := hf3.blk (blk_of1 wr _ _) (fun f => f)
        have b2 := hf3.blk (blk_of2 wr _ _) (fun f => f)
        obtain ⟨c0, c1, c2, c3, c4, c5, c6, c7, c8, c9, c10, c11, c12, c13, c14⟩ := en_of_blk b1
        have q13 := (en_of_blk (x := ⟨0, 0, 0, 0, 0, 0⟩) b2).2.2.2.2.2.2.2.2.2.2.2.2.2.1
        have hM3 : MapII w3 w.heap.size (valM last) := HI.out.1.stab ((hf3.block _ (by have := HI.out.1.lt; simp at this ⊢; omega) (fun f => f)).trans (Below.heap_alloc _ _ _ HI.out.1.lt))
        obtain ⟨w4, hU, hM4, hF4⟩ := run_map_layI (P := Tryz.prog) hM3 69 _ _ Tryz.underlying69 Tryz.underlying3 x.cl x.val
        rw [lay_valM] at hM4
        have hfr3 : Fr No w w3 := (((HI.out.2.1.alloc _).alloc _)).trans (hf3.mono fun _ _ f => f.elim)
        have HM := Lib.hid (And.intro hM4 (And.intro hF4 hfr3))
        clear hM3 hM4 hF4 hfr3 hf3 b1 b2
        cases ht : timed x with
        | false =>
          go_wp2_with fail
          go_ret
          exact ⟨by rw [HL.out.2]; rw [timesP_cons, HL.out.1, ht]; rfl, HM.out.2.2⟩
        | true =>
          go_wp2_with fail
          go_roundw
          case rel => exact ⟨k + 1, by omega, by go_num, _, HM.out.1, by rw [HL.out.2]; rw [timesP_cons, HL.out.1, ht]; simp, HM.out.2.2.trans (HM.out.2.1.mono fun i _ h => .inr (by omega))⟩
          case measure => simp [intOf]; omega
      | some was =>
        rw [hl] at hlk0
        simp only [Option.map_some, Option.getD_some, Option.isSome_some] at hlk0
        have HL := Lib.hid (And.intro hl hT)
        clear hl hT
        go_wp2_with fail
        refine (HT.out _ x).mono ?_
        rintro e w3 ⟨rfl, hf3⟩
        have b1 := hf3.blk (blk_of1 wr _ _) (fun f => f)
        have b2 := hf3.blk (blk_of2 wr _ _) (fun f => f)
        obtain ⟨c0, c1, c2, c3, c4, c5, c6, c7, c8, c9, c10, c11, c12, c13, c14⟩ := en_of_blk b1
        have q13 := (en_of_blk (x := was) b2).2.2.2.2.2.2.2.2.2.2.2.2.2.1
        have hM3 : MapII w3 w.heap.size (valM last) := HI.out.1.stab ((hf3.block _ (by have := HI.out.1.lt; simp at this ⊢; omega) (fun f => f)).trans (Below.heap_alloc _ _ _ HI.out.1.lt))
        obtain ⟨w4, hU, hM4, hF4⟩ := run_map_layI (P := Tryz.prog) hM3 69 _ _ Tryz.underlying69 Tryz.underlying3 x.cl x.val
        rw [lay_valM] at hM4
        have hfr3 : Fr No w w3 := (((HI.out.2.1.alloc _).alloc _)).trans (hf3.mono fun _ _ f => f.elim)
        have HM := Lib.hid (And.intro hM4 (And.intro hF4 hfr3))
        clear hM3 hM4 hF4 hfr3 hf3 b1 b2
        cases ht : timed x with
        | false =>
          go_wp2_with fail
          go_ret
          exact ⟨by rw [HL.out.2]; rw [timesP_cons, HL.out.1, ht]; rfl, HM.out.2.2⟩
        | true =>
          by_cases h1 : was.en < 1
          · have hb : behind was x = false := by unfold behind; rw [decide_eq_false (by omega)]; rfl
            go_wp2_with fail
            go_ret
            exact ⟨by rw [HL.out.2]; rw [timesP_cons, HL.out.1, ht]; simp only [hb]; rfl, HM.out.2.2⟩
          · by_cases h2 : x.bg < was.en
            · have hb : behind was x = false := by unfold behind; rw [decide_eq_false (show ¬ was.en ≤ x.bg by omega)]; simp
              go_wp2_with fail
              go_ret
              exact ⟨by rw [HL.out.2]; rw [timesP_cons, HL.out.1, ht]; simp only [hb]; rfl, HM.out.2.2⟩
            · have hb : behind was x = true := by unfold behind; rw [decide_eq_true (show was.en ≤ x.bg by omega), decide_eq_true (show 1 ≤ was.en by omega)]; rfl
              go_wp2_with fail
              go_roundw
              case rel => exact ⟨k + 1, by omega, by go_num, _, HM.out.1, by rw [HL.out.2]; rw [timesP_cons, HL.out.1, ht]; simp only [hb, Bool.true_and], HM.out.2.2.trans (HM.out.2.1.mono fun i _ h => .inr (by omega))⟩
              case measure => simp [intOf]; omega
    · obtain rfl : k = l.length := by omega
      obtain ⟨last, hM, hT, hwr⟩ := I.out
      rw [List.drop_of_length_le (Nat.le_refl _)] at hT
      have HZ := Lib.hid (And.intro hT hwr)
      clear hM hT hwr
      go_wp2_with fail
      go_ret
      exact ⟨by rw [HZ.out.1]; rfl, HZ.out.2⟩
end Go.Proofs.YtfaooohenicfbaaGreatDoor
