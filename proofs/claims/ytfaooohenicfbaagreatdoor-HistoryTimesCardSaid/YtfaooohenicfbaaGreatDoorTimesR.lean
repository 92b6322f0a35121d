/- The reference's Times. -/
import Derived.Test.YtfaooohenicfbaaGreatDoorTimes
import Derived.Deep.CutRange
set_option linter.unusedVariables false
set_option linter.unusedSimpArgs false
namespace Go.Proofs.YtfaooohenicfbaaGreatDoor
open Go.RowKit

abbrev enR (x : En) : Obj := .cells #[.int .i64 x.cl, .int .u8 x.kd, .int .i64 0, .slice none 0 0, .string ⟨#[]⟩, .int .i64 0, .int .i64 0, .bool false, .slice none 0 0, .slice none 0 0, .slice none 0 0, .int .i64 x.bg, .int .i64 x.pt, .int .i64 x.en, .int .i64 x.tn] 37
theorem timesR_cons (x : En) (l : List En) : timesR (x :: l) = (timed x && (match next x l with | none => true | some y => behind x y) && timesR l) := rfl
theorem next_none {x : En} {l : List En} {i : Nat} (h : ∀ m (hm : m < l.length), i + 1 ≤ m → l[m].cl ≠ x.cl) : next x (l.drop (i + 1)) = none := by
  unfold next
  rw [List.find?_eq_none]
  intro y hy
  obtain ⟨m, hm, rfl⟩ := List.getElem_of_mem hy
  simp only [List.length_drop] at hm
  have := h (i + 1 + m) (by omega) (by omega)
  rw [List.getElem_drop]
  simpa using this
theorem next_some {x : En} {l : List En} {i j : Nat} (hj : j < l.length) (hij : i + 1 ≤ j) (h : ∀ m (hm : m < l.length), i + 1 ≤ m → m < j → l[m].cl ≠ x.cl) (he : l[j].cl = x.cl) : next x (l.drop (i + 1)) = some l[j] := by
  unfold next
  have e : l.drop (i + 1) = (l.drop (i + 1)).take (j - (i + 1)) ++ l[j] :: l.drop (j + 1) := by
    have h1 := (List.take_append_drop (j - (i + 1)) (l.drop (i + 1))).symm
    rw [List.drop_drop, show i + 1 + (j - (i + 1)) = j by omega, List.drop_eq_getElem_cons hj] at h1
    exact h1
  rw [e, List.find?_append]
  have h0 : ((l.drop (i + 1)).take (j - (i + 1))).find? (fun y => decide (y.cl = x.cl)) = none := by
    rw [List.find?_eq_none]
    intro y hy
    obtain ⟨m, hm, rfl⟩ := List.getElem_of_mem hy
    simp only [List.length_take, List.length_drop] at hm
    have := h (i + 1 + m) (by omega) (by omega) (by omega)
    rw [List.getElem_take, List.getElem_drop]
    simpa using this
  rw [h0, List.find?_cons, decide_eq_true he]
  rfl

set_option maxHeartbeats 4000000 in
set_option maxRecDepth 100000 in
theorem ref_times {w : World} {F : Nat → Prop} {A : Option Addr} {c : Nat} {l : List En} (h : Rd tEn w F A l) : Calls Tryz.prog 14 #[.slice A l.length c] w fun e w' => e = .returned (.bool (timesR l)) ∧ Fr No w w' := by
  have H := Lib.hid h
  have hl63 := h.1
  have hl63i : (l.length : Int) ≤ 9223372036854775807 := by omega
  clear h hl63
  go_enter Tryz.func14, Tryz.ntmps14
  go_wp2_with fail
  go_loopw [3] (fun iv wr => ∃ i : Nat, i ≤ l.length ∧ iv = .int .i64 (i : Int) ∧ Hid (timesR l = timesR (l.drop i) ∧ Fr No w wr)) (fun iv _ => l.length - (intOf iv).toNat)
  case atStart => exact ⟨0, Nat.zero_le _, rfl, rfl, Fr.refl No w⟩
  case round =>
    obtain ⟨i, hi, rfl, I⟩ := hrel
    have hi0 : (0 : Int) ≤ (i : Int) := Int.natCast_nonneg _
    by_cases hlt : i < l.length
    · have hi1 : (i : Int) < (l.length : Int) := by omega
      obtain ⟨ad, rfl, ea⟩ := en_at (H.out.fr0 I.out.2) hlt
      have hdrop : l.drop i = l[i] :: l.drop (i + 1) := List.drop_eq_getElem_cons hlt
      obtain ⟨x, hx⟩ : ∃ x, l[i] = x := ⟨_, rfl⟩
      rw [hx] at ea hdrop
      have hT := I.out.1
      rw [hdrop, timesR_cons] at hT
      obtain ⟨W, hW⟩ : ∃ W, W = wr.alloc (enR x) := ⟨_, rfl⟩
      have hfW : Fr No w W := by rw [hW]; exact I.out.2.alloc _
      have hbW : W.heap[wr.heap.size]? = some (enR x) := by rw [hW]; exact heap_alloc_new _ _
      have e0 := (en_of_blk hbW).1
      have e11 := (en_of_blk hbW).2.2.2.2.2.2.2.2.2.2.2.1
      have e12 := (en_of_blk hbW).2.2.2.2.2.2.2.2.2.2.2.2.1
      have e13 := (en_of_blk hbW).2.2.2.2.2.2.2.2.2.2.2.2.2.1
      obtain ⟨c0, c1, c2, c3, c4, c5, c6, c7, c8, c9, c10, c11, c12, c13, c14⟩ := ea
      have HI := Lib.hid (And.intro hT (And.intro hfW (H.out.fr0 hfW)))
      clear hT hfW hbW hdrop hx
      go_upto_region 5 with fail
      rw [← hW]
      clear hW c0 c1 c2 c3 c4 c5 c6 c7 c8 c9 c10 c11 c12 c13 c14
      go_cut [47] from 6 to 84 (fun s47 wx => s47 = .bool (!timed x) ∧ wx = W)
      case first =>
        clear HI
        obtain ⟨cl, kd, bg, pt, en, tn⟩ := x
        simp only at e0 e11 e12 e13
        by_cases h3 : bg < 1
        · go_wp2_with fail
          go_meet
          case rel => exact ⟨by simp [timed]; omega, rfl⟩
        · by_cases h1 : pt = 0
          · subst h1
            by_cases h4 : en = 0
            · subst h4
              go_wp2_with fail
              go_meet
              case rel => exact ⟨by simp [timed]; omega, rfl⟩
            · have h4' : (en != 0) = true := bne_iff_ne.2 h4
              go_wp2_with fail
              go_meet
              case rel => exact ⟨by simp [timed]; omega, rfl⟩
          · have h1' : (pt != 0) = true := bne_iff_ne.2 h1
            by_cases h2 : pt < bg
            · go_wp2_with fail
              go_meet
              case rel => exact ⟨by simp [timed]; omega, rfl⟩
            · by_cases h4 : en = 0
              · subst h4
                go_wp2_with fail
                go_meet
                case rel => exact ⟨by simp [timed]; omega, rfl⟩
              · have h4' : (en != 0) = true := bne_iff_ne.2 h4
                by_cases h5 : pt < 1
                · exact absurd h5 (by omega)
                · by_cases h6 : en < pt
                  · go_wp2_with fail
                    go_meet
                    case rel => exact ⟨by simp [timed]; omega, rfl⟩
                  · go_wp2_with fail
                    go_meet
                    case rel => exact ⟨by simp [timed]; omega, rfl⟩
      case rest =>
        obtain ⟨rfl, rfl⟩ := hcut
        obtain ⟨wo, hwo⟩ : ∃ wo, wo = wr := ⟨_, rfl⟩
        cases ht : timed x with
        | false =>
          go_wp2_with fail
          go_ret
          exact ⟨by rw [HI.out.1, ht]; rfl, HI.out.2.1⟩
        | true =>
          go_wp2_with fail
          go_loopw [5] (fun jv wi => ∃ j n : Nat, i + 1 ≤ j ∧ j ≤ l.length ∧ jv = .int .i64 (j : Int) ∧ wi = wc.drewN n ∧ Hid (∀ m (hm : m < l.length), i + 1 ≤ m → m < j → l[m].cl ≠ x.cl)) (fun jv _ => l.length - (intOf jv).toNat)
          case atStart => exact ⟨i + 1, 0, Nat.le_refl _, hlt, by go_num, rfl, fun m _ h1 h2 => by omega⟩
          case round =>
            obtain ⟨j, n, hj1, hj2, rfl, rfl, J⟩ := hrel
            have hj0 : (0 : Int) ≤ (j : Int) := Int.natCast_nonneg _
            by_cases hjlt : j < l.length
            · have hji : (j : Int) < (l.length : Int) := by omega
              have hjd : decide ((j : Int) < (l.length : Int)) = true := decide_eq_true hji
              obtain ⟨ad', had, ey⟩ := en_at HI.out.2.2 hjlt
              obtain rfl := Option.some.inj had
              obtain ⟨y, hy⟩ : ∃ y, l[j] = y := ⟨_, rfl⟩
              have hyc : l[j].cl = y.cl := by rw [hy]
              rw [hy] at ey
              obtain ⟨c0, c1, c2, c3, c4, c5, c6, c7, c8, c9, c10, c11, c12, c13, c14⟩ := ey
              by_cases hc : y.cl = x.cl
              · have hcb : (y.cl != x.cl) = false := by rw [hc]; simp
                have hn := next_some hjlt hj1 (fun m hm h1 h2 => J.out m hm h1 h2) (hyc.trans hc)
                rw [hy] at hn
                have HN := Lib.hid hn
                clear hn hyc hy hc
                by_cases h1 : x.en < 1
                · have h1d : decide (x.en < 1) = true := decide_eq_true h1
                  have hb : behind x y = false := by unfold behind; rw [decide_eq_false (by omega)]; rfl
                  go_wp2_with fail
                  go_quiet (fail)
                  go_wp2_with fail
                  go_quiet (fail)
                  go_wp2_with fail
                  go_ret
                  exact ⟨by rw [HI.out.1, ht, HN.out]; simp only [hb]; rfl, by repeat (first | exact HI.out.2.1 | apply Fr.drewN | apply Fr.drew)⟩
                · have h1d : decide (x.en < 1) = false := decide_eq_false h1
                  by_cases h2 : y.bg < x.en
                  · have h2d : decide (y.bg < x.en) = true := decide_eq_true h2
                    have hb : behind x y = false := by unfold behind; rw [decide_eq_false (show ¬ x.en ≤ y.bg by omega)]; simp
                    go_wp2_with fail
                    go_quiet (fail)
                    go_wp2_with fail
                    go_quiet (fail)
                    go_wp2_with fail
                    go_ret
                    exact ⟨by rw [HI.out.1, ht, HN.out]; simp only [hb]; rfl, by repeat (first | exact HI.out.2.1 | apply Fr.drewN | apply Fr.drew)⟩
                  · have h2d : decide (y.bg < x.en) = false := decide_eq_false h2
                    have hb : behind x y = true := by unfold behind; rw [decide_eq_true (show x.en ≤ y.bg by omega), decide_eq_true (show 1 ≤ x.en by omega)]; rfl
                    go_wp2_with fail
                    go_quiet (fail)
                    go_wp2_with fail
                    go_quiet (fail)
                    go_wp2_with fail
                    go_roundw
                    case rel => exact ⟨i + 1, by omega, by go_num, by rw [HI.out.1, ht, HN.out]; simp only [hb, Bool.true_and], by repeat (first | exact HI.out.2.1 | apply Fr.drewN | apply Fr.drew)⟩
                    case measure => simp [intOf]; omega
              · have hcb : (y.cl != x.cl) = true := bne_iff_ne.2 hc
                have HN := Lib.hid (show ∀ m (hm : m < l.length), i + 1 ≤ m → m < j + 1 → l[m].cl ≠ x.cl from fun m hm h1 h2 => by
                  by_cases e : m = j
                  · subst e; rw [hyc]; exact hc
                  · exact J.out m hm h1 (by omega))
                clear hyc hy hc
                go_wp2_with fail
                go_quiet (fail)
                go_wp2_with fail
                refine ⟨⟨_, _, _, _, _, _, _, _, _, _, _, _, _, _, _, _, _, ⟨j + 1, _, by omega, by omega, by go_num, rfl, HN.out⟩, rfl⟩, ?_⟩
                simp [intOf]
                omega
            · obtain rfl : j = l.length := by omega
              have hjd : decide ((l.length : Int) < (l.length : Int)) = false := decide_eq_false (by omega)
              have hn := next_none (i := i) (x := x) (fun m hm h1 => J.out m hm h1 hm)
              have HN := Lib.hid hn
              clear hn
              go_wp2_with fail
              go_quiet (fail)
              go_wp2_with fail
              go_quiet (fail)
              go_wp2_with fail
              go_roundw
              case rel => exact ⟨i + 1, by omega, by go_num, by rw [HI.out.1, ht, HN.out]; simp only [Bool.true_and], by repeat (first | exact HI.out.2.1 | apply Fr.drewN | apply Fr.drew)⟩
              case measure => simp [intOf]; omega
    · obtain rfl : i = l.length := by omega
      have hT := I.out.1
      rw [List.drop_of_length_le (Nat.le_refl _)] at hT
      have HZ := Lib.hid (And.intro hT I.out.2)
      clear hT
      go_wp2_with fail
      go_ret
      exact ⟨by rw [HZ.out.1]; rfl, HZ.out.2⟩
end Go.Proofs.YtfaooohenicfbaaGreatDoor
