/- Laws of layer 14 (tx): the document's example. -/
import Derived.Test.YtkcppngopdiljaaTx4
import Derived.Test.YtkcppngopdiljaaLaw1
import Derived.Lib.SlBytesConst
set_option linter.unusedVariables false
set_option linter.unusedSimpArgs false
namespace Go.Proofs.Ytkcppngopdiljaa
open Go.RowKit

theorem wrO_at {w : World} {F : Nat → Prop} {A : Option Addr} {ws : List Wr} (h : Rd tWrO w F A ws) {i : Nat} (hi : i < ws.length) :
    ∃ ad A' c', A = some ad ∧ w.cell? (ad.add (i * 3)) = some (.string ws[i].key) ∧ w.cell? ⟨(ad.add (i * 3)).block, (ad.add (i * 3)).off + 1, none⟩ = some (.slice A' ws[i].row.length c') ∧
      w.cell? ⟨(ad.add (i * 3)).block, (ad.add (i * 3)).off + 2, none⟩ = some (.bool ws[i].gone) ∧ Ow Ty.u8 5 w F (.slice A' ws[i].row.length c') ws[i].row := by
  obtain ⟨ad, cs, e, hk, e0, e1⟩ := h.get' hi (by decide)
  obtain ⟨A', c', rfl, h1⟩ := tWrO_open hk
  exact ⟨ad, A', c', e, e0 _ rfl, e1 1 _ (by decide) rfl, e1 2 _ (by decide) rfl, h1⟩

theorem both_put : wwrite [] ⟨keyA, [49], false⟩ = ([⟨keyA, [49], false⟩], 0) := rfl
theorem both_del : wwrite [⟨keyA, [49], false⟩] ⟨keyA, [], true⟩ = ([⟨keyA, [], true⟩], 0) := by
  have hf : wfind keyA [⟨keyA, [49], false⟩] = some ⟨keyA, [49], false⟩ := by unfold wfind; simp
  unfold wwrite
  rw [hf, if_neg (by simp)]
  unfold wput
  rw [if_neg (by rw [kl_irrefl]; simp), if_pos rfl]

set_option maxHeartbeats 1000000 in
set_option maxRecDepth 100000 in
theorem law_both (w : World) : Calls Try.prog 10 #[] w fun e w' => e = .returned (.bool true) ∧ Fr No w w' := by
  have kc := fun (w : World) (C : Array Value) (n c : Nat) => Lib.run_convert_bytes_const (P := Try.prog) w 27 5 C n c Try.underlying27 Try.underlying5
  go_enter Try.func10, Try.ntmps10
  go_wp2_with fail
  refine (tx_new 0 w).mono ?_
  rintro e1 w1 ⟨xb, rfl, ht1, hf1⟩
  obtain ⟨W, hW⟩ : ∃ W, W = w1.alloc (.cells #[.int .u8 49] 5 (1, 2)) := ⟨_, rfl⟩
  have hfW : Fr No w1 W := by rw [hW]; exact (Fr.refl No w1).alloc _
  have hRd : Rd Ty.u8 W (fun i => w1.heap.size ≤ i) (some ⟨w1.heap.size, 0, none⟩) [49] := by
    rw [hW]
    exact Rd.block (heap_alloc_new w1 _) (Nat.le_refl _) ⟨[.int .u8 49], [], rfl, rfl, rfl⟩ (by simp)
  have hput := tx_put (n := 1) (c := 1) keyA (ht1.fr0 hfW) hRd (by simp) rfl (by simp)
  rw [both_put] at hput
  have HP := Lib.hid (And.intro hput (And.intro hf1 hfW))
  clear hput hRd ht1 hf1 hfW
  go_wp2_with fail
  change Calls _ _ #[_, .string keyA, _] (w1.alloc (.cells #[.int .u8 49] 5 (1, 2))) _
  rw [← hW]
  clear hW
  refine HP.out.1.mono ?_
  rintro e2 w2 ⟨rfl, ht2, hf2⟩
  have hfw2 : Fr No w w2 := (HP.out.2.1.trans (HP.out.2.2.mono fun _ _ f => f.elim)).trans (hf2.mono fun i _ hi => .inr hi)
  have hw1 := HP.out.2.1.size
  have hW1 := HP.out.2.2.size
  have hdel := tx_del keyA (ht2.mono (F' := fun i => w.heap.size ≤ i) fun i hi _ => by
    rcases hi with hi | hi
    · exact hi
    · show w.heap.size ≤ i; omega) (by simp)
  rw [both_del] at hdel
  have HD := Lib.hid (And.intro hdel hfw2)
  clear hdel ht2 hf2 hfw2
  go_wp2_with fail
  change Calls _ _ #[_, .string keyA] _ _
  refine HD.out.1.mono ?_
  rintro e3 w3 ⟨rfl, ht3, hf3⟩
  have hfw3 : Fr No w w3 := HD.out.2.trans (hf3.mono fun i _ hi => .inr hi)
  have hwr := tx_writes ht3 (by simp) (fun x hx => by obtain rfl := List.mem_singleton.1 hx; exact ⟨by show (1 : Nat) ≤ _; omega, by simp⟩)
  have HW := Lib.hid (And.intro hwr hfw3)
  clear hwr ht3 hf3 hfw3
  go_wp2_with fail
  refine HW.out.1.mono ?_
  rintro e4 w4 ⟨A4, c4, rfl, ho4, hf4⟩
  obtain ⟨ad, A', c', rfl, x0, x1, x2, _⟩ := wrO_at ho4.rd.2.2 (i := 0) (by simp)
  simp at x0 x1 x2
  have h0 : ad.add 0 = ad := by simp [Addr.add]
  rw [h0] at x0 x1 x2
  clear h0
  change _ = some (Value.string ⟨#[97]⟩) at x0
  have HF := Lib.hid (HW.out.2.trans (hf4.mono fun _ _ f => f.elim))
  clear ho4 hf4
  go_wp2_with fail
  go_ret
  exact ⟨rfl, HF.out⟩
end Go.Proofs.Ytkcppngopdiljaa
