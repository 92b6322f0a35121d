/- Laws of layer 20 (judge): JudgeNil. -/
import Derived.Test.YtkjlipclimfoeaaGreatDoorTab
set_option linter.unusedVariables false
set_option linter.unusedSimpArgs false
namespace Go.Proofs.YtkjlipclimfoeaaGreatDoor
open Go.RowKit

set_option maxHeartbeats 400000 in
set_option maxRecDepth 100000 in
theorem of_nil {w : World} (c : Int) : Calls Tryz.prog 30 #[.pointer none, .int .i64 c] w fun e w' => e = .returned (.pointer none) ∧ w' = w := by
  go_enter Tryz.func30, Tryz.ntmps30
  go_wp2_with fail
  go_ret
  exact ⟨rfl, rfl⟩
set_option maxHeartbeats 400000 in
set_option maxRecDepth 100000 in
theorem pending_nil {w : World} (c : Int) : Calls Tryz.prog 16 #[.pointer none, .int .i64 c] w fun e w' => e = .returned (.bool false) ∧ w' = w := by
  go_enter Tryz.func16, Tryz.ntmps16
  go_wp2_with fail
  refine (of_nil c).mono ?_
  rintro e w' ⟨rfl, rfl⟩
  go_wp2_with fail
  go_ret
  exact ⟨rfl, rfl⟩
set_option maxHeartbeats 400000 in
set_option maxRecDepth 100000 in
theorem committer_nil {w : World} : Calls Tryz.prog 31 #[.pointer none] w fun e w' => e = .returned (.pointer none) ∧ w' = w := by
  go_enter Tryz.func31, Tryz.ntmps31
  go_wp2_with fail
  go_ret
  exact ⟨rfl, rfl⟩
set_option maxHeartbeats 400000 in
set_option maxRecDepth 100000 in
theorem gphase_nil {w : World} : Calls Tryz.prog 32 #[.pointer none] w fun e w' => e = .returned (.int .u8 0) ∧ w' = w := by
  go_enter Tryz.func32, Tryz.ntmps32
  go_wp2_with fail
  go_ret
  exact ⟨rfl, rfl⟩
set_option maxHeartbeats 400000 in
set_option maxRecDepth 100000 in
theorem phase_nil {w : World} : Calls Tryz.prog 17 #[.pointer none] w fun e w' => e = .returned (.int .u8 0) ∧ w' = w := by
  go_enter Tryz.func17, Tryz.ntmps17
  go_wp2_with fail
  refine committer_nil.mono ?_
  rintro e w' ⟨rfl, rfl⟩
  go_wp2_with fail
  refine gphase_nil.mono ?_
  rintro e w' ⟨rfl, rfl⟩
  go_wp2_with fail
  go_ret
  exact ⟨rfl, rfl⟩
set_option maxHeartbeats 400000 in
set_option maxRecDepth 100000 in
theorem quiet_nil {w : World} : Calls Tryz.prog 8 #[.pointer none] w fun e w' => e = .returned (.bool true) ∧ w' = w := by
  have HP := Lib.hid fun c : Int => pending_nil (w := w) c
  have HQ := Lib.hid (phase_nil (w := w))
  go_enter Tryz.func8, Tryz.ntmps8
  go_wp2_with fail
  go_loopw [4] (fun iv wr => ∃ i : Nat, i ≤ 8 ∧ iv = .int .i64 (i : Int) ∧ wr = w) (fun iv _ => 8 - (intOf iv).toNat)
  case atStart => exact ⟨0, by omega, rfl, by first | rfl | trivial⟩
  case round =>
    obtain ⟨i, hi, rfl, rfl⟩ := hrel
    have hi0 : (0 : Int) ≤ (i : Int) := Int.natCast_nonneg _
    by_cases hlt : i < 8
    · have hlti : (i : Int) < 8 := by omega
      go_wp2_with fail
      refine (HP.out _).mono ?_
      rintro e w' ⟨rfl, rfl⟩
      go_wp2_with fail
      go_roundw
      case rel => exact ⟨i + 1, by omega, by go_num, by first | rfl | trivial⟩
      case measure => simp [intOf]; omega
    · obtain rfl : i = 8 := by omega
      go_wp2_with fail
      refine HQ.out.mono ?_
      rintro e w' ⟨rfl, rfl⟩
      go_wp2_with fail
      go_ret
      exact ⟨rfl, rfl⟩
set_option maxHeartbeats 400000 in
set_option maxRecDepth 100000 in
theorem settle_nil {w : World} (n : Int) : Calls Tryz.prog 9 #[.pointer none, .int .i64 n] w fun e w' => e = .returned (.int .i64 0) ∧ w' = w := by
  have HQ := Lib.hid (quiet_nil (w := w))
  by_cases hn : 0 < n
  · go_enter Tryz.func9, Tryz.ntmps9
    go_wp2_with fail
    refine wp_loop_rounds 1 ?_
    rw [rounds_succ]
    go_wp2_with fail
    refine HQ.out.mono ?_
    rintro e w' ⟨rfl, rfl⟩
    go_wp2_with fail
    go_ret
    exact ⟨rfl, rfl⟩
  · go_enter Tryz.func9, Tryz.ntmps9
    go_wp2_with fail
    refine wp_loop_rounds 1 ?_
    rw [rounds_succ]
    go_wp2_with fail
    go_ret
    exact ⟨rfl, rfl⟩
set_option maxHeartbeats 400000 in
set_option maxRecDepth 100000 in
theorem has_nil {w : World} (n : Int) : Calls Tryz.prog 24 #[.slice none 0 0, .int .i64 n] w fun e w' => e = .returned (.bool false) ∧ w' = w := by
  by_cases hn : 0 ≤ n
  · have hn2 : ¬ n < 0 := by omega
    go_enter Tryz.func24, Tryz.ntmps24
    go_wp2_with fail
    go_ret
    exact ⟨rfl, rfl⟩
  · go_enter Tryz.func24, Tryz.ntmps24
    go_wp2_with fail
    go_ret
    exact ⟨rfl, rfl⟩
set_option maxHeartbeats 400000 in
set_option maxRecDepth 100000 in
theorem begun_nil {w : World} (n : Int) : Calls Tryz.prog 12 #[.slice none 0 0, .int .i64 n] w fun e w' => e = .returned (.int .i64 (-1)) ∧ w' = w := by
  have HQ := Lib.hid (has_nil (w := w) n)
  go_enter Tryz.func12, Tryz.ntmps12
  go_wp2_with fail
  refine HQ.out.mono ?_
  rintro e w' ⟨rfl, rfl⟩
  go_wp2_with fail
  go_ret
  exact ⟨rfl, rfl⟩
set_option maxHeartbeats 400000 in
set_option maxRecDepth 100000 in
theorem keys_nil {w : World} (v : Value) (n : Int) : Calls Tryz.prog 13 #[v, .slice none 0 0, .int .i64 n] w fun e w' => e = .returned (.slice none 0 0) ∧ w' = w := by
  have HQ := Lib.hid (begun_nil (w := w) n)
  go_enter Tryz.func13, Tryz.ntmps13
  go_wp2_with fail
  refine HQ.out.mono ?_
  rintro e w' ⟨rfl, rfl⟩
  go_wp2_with fail
  go_ret
  exact ⟨rfl, rfl⟩

set_option maxHeartbeats 1000000 in
set_option maxRecDepth 100000 in
theorem law_nil20 {w : World} (n m : Int) : Calls Tryz.prog 4 #[.int .i64 n, .int .i64 m] w fun e w' => e = .returned (.bool true) ∧ Fr No w w' := by
  have HS := Lib.hid (stands_ok (w := w))
  have HQ := Lib.hid fun w : World => quiet_nil (w := w)
  have HT := Lib.hid fun (w : World) => settle_nil (w := w) m
  have HR := Lib.hid fun (w : World) (v : Value) => right_nil (w := w) v
  have HB := Lib.hid fun (w : World) => begun_nil (w := w) n
  have HK := Lib.hid fun (w : World) (v : Value) => keys_nil (w := w) v n
  have HTab := Lib.hid fun (w : World) => tables_nil (w := w)
  go_enter Tryz.func4, Tryz.ntmps4
  go_wp2_with fail
  refine HS.out.mono ?_
  rintro e w1 ⟨rfl, hf1⟩
  have H1 := Lib.hid hf1
  clear hf1
  go_wp2_with fail
  refine (HQ.out _).mono ?_
  rintro e w' ⟨rfl, rfl⟩
  go_wp2_with fail
  refine (HT.out _).mono ?_
  rintro e w' ⟨rfl, rfl⟩
  go_wp2_with fail
  refine (HTab.out _).mono ?_
  rintro e w2 ⟨A2, c2, rfl, _, _, hf2⟩
  have H2 := Lib.hid (H1.out.next hf2 (fun _ _ f => f.elim))
  clear hf2
  go_wp2_with fail
  refine (HR.out _ _).mono ?_
  rintro e w' ⟨rfl, rfl⟩
  go_wp2_with fail
  refine (HB.out _).mono ?_
  rintro e w' ⟨rfl, rfl⟩
  go_wp2_with fail
  refine (HTab.out _).mono ?_
  rintro e w3 ⟨A3, c3, rfl, _, _, hf3⟩
  have H3 := Lib.hid (H2.out.next hf3 (fun _ _ f => f.elim))
  clear hf3
  go_wp2_with fail
  refine (HK.out _ _).mono ?_
  rintro e w' ⟨rfl, rfl⟩
  go_wp2_with fail
  go_ret
  exact ⟨rfl, H3.out⟩
end Go.Proofs.YtkjlipclimfoeaaGreatDoor
