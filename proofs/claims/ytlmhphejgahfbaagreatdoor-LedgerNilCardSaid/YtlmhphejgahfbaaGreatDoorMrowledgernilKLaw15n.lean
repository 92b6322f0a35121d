/- Layer 15: LedgerNil: of no ledger, and of tables that may not be. -/
import Derived.Test.YtlmhphejgahfbaaGreatDoorMrowledgernil29
import Derived.Test.YtlmhphejgahfbaaGreatDoorMrowledgernilKOnce
set_option linter.unusedVariables false
set_option linter.unusedSimpArgs false
namespace Go.Proofs.YtlmhphejgahfbaaGreatDoor
open Go.RowKit

set_option maxHeartbeats 8000000 in
set_option maxRecDepth 100000 in
theorem law_nil15 {w : World} {ids : List Int} {R : Nat → Prop} {A : Option Addr} {c : Nat} (id t : Int) (hids : Rd (Ty.int .i64) w R A ids) (hc : ids.length ≤ c) (hk : KAt w) :
    Calls Tryz.prog 6 #[.int .i64 id, .int .i64 t, .slice A ids.length c] w fun e w' => e = .returned (.bool true) ∧ Fr No w w' := by
  have hl63 : (ids.length : Int) ≤ 9223372036854775807 := by have := hids.1; omega
  have HK := Lib.hid hk
  have HR := Lib.hid (And.intro hids hc)
  clear hk hids hc
  by_cases h3 : 3 < ids.length
  · have h3i : (3 : Int) < (ids.length : Int) := by omega
    clear h3
    have HO := Lib.hid (once_ok HK.out)
    go_enter Tryz.func6, Tryz.ntmps6
    go_wp2_with fail
    refine HO.out.mono ?_
    rintro e w1 ⟨rfl, hf1⟩
    have H1 := Lib.hid hf1
    clear hf1
    go_wp2_with fail
    go_ret
    exact ⟨rfl, H1.out⟩
  · have h3i : (ids.length : Int) ≤ 3 := by omega
    have h30 : (0 : Int) ≤ (ids.length : Int) := Int.natCast_nonneg _
    have hl3 : ids.length ≤ 3 := by omega
    have HF := Lib.hid fun (w1 : World) (f : Fr No w w1) => form_nil (HR.out.1.fr0 f) hl3 rfl HR.out.2
    have HG := Lib.hid fun (w1 : World) (f : Fr No w w1) => group_nil (HR.out.1.fr0 f) hl3 rfl HR.out.2
    have HO := Lib.hid fun (w1 : World) (f : Fr No w w1) => once_ok (HK.out.fr0 f)
    obtain ⟨n, hn⟩ : ∃ n, ids.length = n := ⟨_, rfl⟩
    have HL := Lib.hid (And.intro hn hl3)
    rw [hn] at HF HG h3i h30 ⊢
    clear h3 hn hl3 hl63
    have HW := Lib.hid (Fr.refl No w)
    go_enter Tryz.func6, Tryz.ntmps6
    go_wp2_with fail
    refine (new_nil _).mono ?_
    rintro e w ⟨rfl, rfl⟩
    go_wp2_with fail
    refine (get_nil id t _).mono ?_
    rintro e w ⟨rfl, rfl⟩
    go_wp2_with fail
    refine (scan_nil id t 5 _).mono ?_
    rintro e w ⟨rfl, rfl⟩
    go_wp2_with fail
    refine (readat_nil t _ _).mono ?_
    rintro e w1 ⟨rfl, hf1⟩
    have H1 := Lib.hid hf1
    clear hf1
    go_wp2_with fail
    refine (HF.out _ H1.out).mono ?_
    rintro e w2 ⟨Ao, co, rfl, ho2, hf2⟩
    obtain ⟨w3, hw3⟩ : ∃ w3, w3 = w2.alloc (.cells #[.int .i64 0, .slice none 0 0] 69) := ⟨_, rfl⟩
    have hf23 : Fr No w2 w3 := by rw [hw3]; exact (Fr.refl No w2).alloc _
    have hb3 : w3.heap[w2.heap.size]? = some (.cells #[.int .i64 0, .slice none 0 0] 69 (0, 0)) := by rw [hw3]; exact heap_alloc_new w2 _
    have H3 := Lib.hid (And.intro (ho2.fr0 hf23) (And.intro ((H1.out.next hf2 (fun _ _ f => f.elim)).next hf23 (fun _ _ f => f.elim)) hb3))
    clear ho2 hf2 hf23 hb3
    go_wp2_with fail
    rw [← hw3]
    clear hw3
    go_loopw [21] (fun iv wr => ∃ k : Nat, k ≤ n ∧ iv = .int .i64 (k : Int) ∧ wr = w3) (fun iv _ => n - (intOf iv).toNat)
    case atStart => exact ⟨0, Nat.zero_le _, rfl, by first | rfl | trivial⟩
    case round =>
      obtain ⟨k, hk, rfl, rfl⟩ := hrel
      have hk0 : (0 : Int) ≤ (k : Int) := Int.natCast_nonneg _
      by_cases hlt : k < n
      · have hk1 : (k : Int) < (n : Int) := by omega
        obtain ⟨ad, cs, rfl, hkk, h0, _⟩ := H3.out.1.rd.2.2.get' (i := k) (by rw [List.length_replicate]; exact hlt) (by decide)
        obtain rfl : cs = _ := hkk
        have x0 := h0 _ rfl
        rw [show (Ty.int .i64).sz = 1 from rfl, Nat.mul_one, List.getElem_replicate] at x0
        clear h0
        go_wp2_with fail
        go_roundw
        case rel => exact ⟨k + 1, by omega, by go_num, by first | rfl | trivial⟩
        case measure => simp [intOf]; omega
      · obtain rfl : k = n := by omega
        have M0 := blk_cell H3.out.2.2 0
        have M1 := blk_cell H3.out.2.2 1
        simp at M0 M1
        have HX := Lib.hid (Fr.refl No wr)
        go_wp2_with (first
          | (go_at_call 11; refine (begin_nil _).mono ?_; rintro e9 w9 ⟨rfl, he9⟩
             have hg9 : Fr No wr w9 := by rw [he9]; repeat (first | exact HX.out | apply Fr.drew | apply Fr.drewN)
             clear he9
             have m0 := hg9.cell M0 (fun f => f)
             have m1 := hg9.cell M1 (fun f => f)
             have HX := Lib.hid hg9
             clear hg9)
          | (go_at_call 25; refine (open_nil id _).mono ?_; rintro e9 w9 ⟨rfl, he9⟩
             have hg9 : Fr No wr w9 := by rw [he9]; repeat (first | exact HX.out | apply Fr.drew | apply Fr.drewN)
             clear he9
             have m0 := hg9.cell M0 (fun f => f)
             have m1 := hg9.cell M1 (fun f => f)
             have HX := Lib.hid hg9
             clear hg9)
          | (go_at_call 31; refine (wrote_nil id _).mono ?_; rintro e9 w9 ⟨rfl, he9⟩
             have hg9 : Fr No wr w9 := by rw [he9]; repeat (first | exact HX.out | apply Fr.drew | apply Fr.drewN)
             clear he9
             have m0 := hg9.cell M0 (fun f => f)
             have m1 := hg9.cell M1 (fun f => f)
             have HX := Lib.hid hg9
             clear hg9)
          | (go_at_call 13; refine (lput_nil id t _).mono ?_; rintro e9 w9 ⟨rfl, he9⟩
             have hg9 : Fr No wr w9 := by rw [he9]; repeat (first | exact HX.out | apply Fr.drew | apply Fr.drewN)
             clear he9
             have m0 := hg9.cell M0 (fun f => f)
             have m1 := hg9.cell M1 (fun f => f)
             have HX := Lib.hid hg9
             clear hg9)
          | (go_at_call 26; refine (delete_nil id t _).mono ?_; rintro e9 w9 ⟨rfl, he9⟩
             have hg9 : Fr No wr w9 := by rw [he9]; repeat (first | exact HX.out | apply Fr.drew | apply Fr.drewN)
             clear he9
             have m0 := hg9.cell M0 (fun f => f)
             have m1 := hg9.cell M1 (fun f => f)
             have HX := Lib.hid hg9
             clear hg9)
          | (go_at_call 32; refine (abort_nil id _).mono ?_; rintro e9 w9 ⟨rfl, he9⟩
             have hg9 : Fr No wr w9 := by rw [he9]; repeat (first | exact HX.out | apply Fr.drew | apply Fr.drewN)
             clear he9
             have m0 := hg9.cell M0 (fun f => f)
             have m1 := hg9.cell M1 (fun f => f)
             have HX := Lib.hid hg9
             clear hg9)
          | (go_at_call 20; refine (now_nil _).mono ?_; rintro e9 w9 ⟨rfl, he9⟩
             have hg9 : Fr No wr w9 := by rw [he9]; repeat (first | exact HX.out | apply Fr.drew | apply Fr.drewN)
             clear he9
             have m0 := hg9.cell M0 (fun f => f)
             have m1 := hg9.cell M1 (fun f => f)
             have HX := Lib.hid hg9
             clear hg9)
          | (go_at_call 17; refine (digests_nil _).mono ?_; rintro e9 w9 ⟨rfl, he9⟩
             have hg9 : Fr No wr w9 := by rw [he9]; repeat (first | exact HX.out | apply Fr.drew | apply Fr.drewN)
             clear he9
             have m0 := hg9.cell M0 (fun f => f)
             have m1 := hg9.cell M1 (fun f => f)
             have HX := Lib.hid hg9
             clear hg9)
          | (go_at_call 34; refine (versions_nil _).mono ?_; rintro e9 w9 ⟨rfl, he9⟩
             have hg9 : Fr No wr w9 := by rw [he9]; repeat (first | exact HX.out | apply Fr.drew | apply Fr.drewN)
             clear he9
             have m0 := hg9.cell M0 (fun f => f)
             have m1 := hg9.cell M1 (fun f => f)
             have HX := Lib.hid hg9
             clear hg9)
          | (go_at_call 33; refine (publish_nil _ _ _ _ _ _ _ _).mono ?_; rintro e9 w9 ⟨rfl, hf9⟩
             have hg9 : Fr No wr w9 := Fr.next (by repeat (first | exact HX.out | apply Fr.drew | apply Fr.drewN)) hf9 (fun _ _ f => f.elim)
             have m0 := hg9.cell M0 (fun f => f)
             have m1 := hg9.cell M1 (fun f => f)
             have HX := Lib.hid hg9
             clear hg9 hf9)
          | (go_at_call 15; refine (HG.out _ (Fr.next (G := No) H3.out.2.1 (by repeat (first | exact HX.out | apply Fr.drew | apply Fr.drewN)) (fun _ _ f => f.elim))).mono ?_; rintro e9 w9 ⟨A9, c9, rfl, hf9⟩
             have hg9 : Fr No wr w9 := Fr.next (by repeat (first | exact HX.out | apply Fr.drew | apply Fr.drewN)) hf9 (fun _ _ f => f.elim)
             have m0 := hg9.cell M0 (fun f => f)
             have m1 := hg9.cell M1 (fun f => f)
             have HX := Lib.hid hg9
             clear hg9 hf9)
          | (go_at_call 7; refine (HO.out _ (Fr.next (G := No) H3.out.2.1 (by repeat (first | exact HX.out | apply Fr.drew | apply Fr.drewN)) (fun _ _ f => f.elim))).mono ?_; rintro e9 w9 ⟨rfl, hf9⟩
             have hg9 : Fr No wr w9 := Fr.next (by repeat (first | exact HX.out | apply Fr.drew | apply Fr.drewN)) hf9 (fun _ _ f => f.elim)
             have m0 := hg9.cell M0 (fun f => f)
             have m1 := hg9.cell M1 (fun f => f)
             have HX := Lib.hid hg9
             clear hg9 hf9))
        go_ret
        exact ⟨by simp, H3.out.2.1.next HX.out (fun _ _ f => f.elim)⟩
end Go.Proofs.YtlmhphejgahfbaaGreatDoor
