/- turned: the document's entries as the program's. -/
import Derived.Test.YtfaooohenicfbaaGreatDoorTimesR
set_option linter.unusedVariables false
set_option linter.unusedSimpArgs false
namespace Go.Proofs.YtfaooohenicfbaaGreatDoor
open Go.RowKit

theorem info_enR : (Tryz.prog.info? 37).map (fun i => (i.zero, i.size, i.bytes)) = some (some zeroEn, 15, 192) := by kernel_rfl
theorem row_en {w : World} {F : Nat → Prop} (x : En) : Row tEn w F [x] x.cells := Row.single (t := tEn) rfl

set_option maxHeartbeats 2000000 in
set_option maxRecDepth 100000 in
theorem turned_ok {w : World} {F : Nat → Prop} {A : Option Addr} {c : Nat} {l : List En} (h : Rd tEn w F A l) (hl : l.length ≤ 1000000) : Calls Tryz.prog 8 #[.slice A l.length c] w fun e w' => ∃ A1 c1, e = .returned (.slice A1 l.length c1) ∧ Ow tEn 41 w' (fun i => w.heap.size ≤ i) (.slice A1 l.length c1) l ∧ Fr No w w' := by
  have H := Lib.hid h
  have hli : (l.length : Int) ≤ 1000000 := by omega
  clear h
  go_enter Tryz.func8, Tryz.ntmps8
  go_wp2_with fail
  go_loopw [3, 4] (fun v iv wr => ∃ (k : Nat) (B : Option Addr) (d : Nat), k ≤ l.length ∧ v = .slice B k d ∧ iv = .int .i64 (k : Int) ∧ Hid (Ow tEn 41 wr (fun i => w.heap.size ≤ i) (.slice B k d) (l.take k) ∧ Fr No w wr)) (fun _ iv _ => l.length - (intOf iv).toNat)
  case atStart => exact ⟨0, none, 0, Nat.zero_le _, rfl, rfl, Ow.nil, Fr.refl _ _⟩
  case round =>
    obtain ⟨k, B, d, hk, rfl, rfl, I⟩ := hrel
    have hk0 : (0 : Int) ≤ (k : Int) := Int.natCast_nonneg _
    by_cases hlt : k < l.length
    · have hk1 : (k : Int) < (l.length : Int) := by omega
      obtain ⟨ad, rfl, ea⟩ := en_at (H.out.fr0 I.out.2) hlt
      have htake : l.take (k + 1) = l.take k ++ [l[k]] := List.take_succ_eq_append_getElem hlt
      obtain ⟨x, hx⟩ : ∃ x, l[k] = x := ⟨_, rfl⟩
      rw [hx] at ea htake
      obtain ⟨c0, c1, c2, c3, c4, c5, c6, c7, c8, c9, c10, c11, c12, c13, c14⟩ := ea
      obtain ⟨W, hW⟩ : ∃ W, W = (wr.alloc (enR x)).alloc (enO x) := ⟨_, rfl⟩
      have hfW : Fr No wr W := by rw [hW]; exact ((Fr.refl No wr).alloc _).alloc _
      have hA : At W (some ⟨wr.heap.size + 1, 0, none⟩) x.cells := by rw [hW]; exact At.block (blk_of2 _ _ _)
      have hlen : (l.take k).length = k := by rw [List.length_take]; omega
      obtain ⟨A1, c1', w1, hrun, hO, hg, _⟩ := run_ow_append (P := Tryz.prog) (ty := 38) (ty' := 38) tEn (I.out.1.fr0 hfW) zeroEn 192 Tryz.underlying38 info_en rfl (by decide) (by decide) 1 (ys := [x]) (row_en x) hA (by rw [hlen]; simp; omega)
      rw [hlen] at hrun hO
      simp only [List.length_singleton] at hrun hO
      have hfw1 : Fr No w w1 := (I.out.2.trans (hfW.mono fun _ _ f => f.elim)).grown hg fun b hb => .inr (I.out.1.own hb).1
      have hO2 : Ow tEn 41 w1 (fun i => w.heap.size ≤ i) (.slice A1 (k + 1) c1') (l.take (k + 1)) := by
        rw [htake]
        refine hO.mono fun i hi _ => ?_
        have h1 := I.out.2.size
        have h2 := hfW.size
        rcases hi with hi | hi <;> omega
      have HZ := Lib.hid (And.intro hO2 hfw1)
      clear hO2
      clear hA hlen hO hg hfw1 hx htake
      go_wp2_with (at_builtin; rw [← hW]; refine wpList_plain rfl fun K hK => wp_append_run _ _ _ _ rfl rfl rfl hrun (hK _ _ ?_))
      go_roundw
      case rel => exact ⟨k + 1, A1, c1', by omega, rfl, by go_num, HZ.out.1, HZ.out.2⟩
      case measure => simp [intOf]; omega
    · obtain rfl : k = l.length := by omega
      go_wp2_with fail
      go_ret
      have hO := I.out.1
      rw [List.take_of_length_le (Nat.le_refl _)] at hO
      exact ⟨B, d, rfl, hO, I.out.2⟩
end Go.Proofs.YtfaooohenicfbaaGreatDoor
