/- Laws of layer 9 (trie): back. -/
import Derived.Test.YtlgmodeibmdcgaaDoorLaw9b
import Derived.Lib.SlBytesConst
set_option linter.unusedVariables false
set_option linter.unusedSimpArgs false
namespace Go.Proofs.YtlgmodeibmdcgaaDoor
open Go.RowKit

theorem rd_newf {w W : World} {t : TypeId} {cs : Array Value} {fr : Nat × Nat} {p : Bs} (hf : Fr No (w.alloc (.cells cs t fr)) W) (h : cs.toList = p.map fun b => Value.int .u8 (b.toNat : Int)) (hp : p.length ≤ 1000000000) : Rd Ty.u8 W (fun _ => True) (some ⟨w.heap.size, 0, none⟩) p := by
  refine Rd.fr0 ⟨by omega, _, row_bytes p, fun j u hu => ⟨_, rfl, trivial, ?_⟩⟩ hf
  rw [add0, blk_cell (heap_alloc_new w _), ← Array.getElem?_toList, h]
  exact hu

set_option maxHeartbeats 2000000 in
set_option maxRecDepth 100000 in
theorem back_ok {w : World} (hk : KAt w) : Calls Tryd.prog 10 #[] w fun e w' => e = .returned (.bool true) ∧ Fr No w w' := by
  have kc := fun (w : World) (C : Array Value) (n c : Nat) => Lib.run_convert_bytes_const (P := Tryd.prog) w 30 5 C n c Tryd.underlying30 Tryd.underlying5
  obtain ⟨W1, hW1⟩ : ∃ W, W = w.alloc (.cells #[.int .u8 49] 5 (1, 2)) := ⟨_, rfl⟩
  have hf1 : Fr No w W1 := by rw [hW1]; exact (Fr.refl No w).alloc _
  have hr1 : Rd Ty.u8 W1 (fun _ => True) (some ⟨w.heap.size, 0, none⟩) [49] := by rw [hW1]; exact rd_newf (cs := #[.int .u8 49]) (Fr.refl No _) rfl (by simp)
  have hput := Put_ok (c := 1) (t := .nil) (v := .pointer none) (B := w.heap.size) (⟨#[97]⟩ : ByteArray) rfl hr1 (by decide) (by decide) (hk.fr0 hf1) hf1.size trivial (Nat.zero_le _) (Nat.zero_le _) trivial (fun k hk => by cases hk)
  have hlb := fun (w0 : World) => ref_leafb (w := w0.alloc (.cells #[.int .u8 49] 5 (1, 2))) (c := 1) (⟨#[97]⟩ : ByteArray) (rd_newf (w := w0) (t := 5) (cs := #[.int .u8 49]) (fr := (1, 2)) (p := [49]) (Fr.refl No _) rfl (by simp)) (by decide) (by decide)
  have hsm := fun (w1 : World) (A1 : Option Addr) (c1 : Nat) (F : Nat → Prop) (hr : Rd Ty.u8 w1 F A1 (leafB ⟨#[97]⟩ [49])) => ref_sum (c := c1) hr (by decide)
  have hdd : digT (.leaf (⟨#[97]⟩ : ByteArray) [49]) = sha (leafB ⟨#[97]⟩ [49]) := rfl
  obtain ⟨L, hL⟩ : ∃ L, leafB ⟨#[97]⟩ [49] = L := ⟨_, rfl⟩
  rw [hL] at hdd
  simp only [hL] at hlb hsm
  have H := Lib.hid (And.intro hf1 (And.intro hk (And.intro hlb (And.intro hsm hdd))))
  rw [hW1] at hput
  have HP := Lib.hid hput
  rw [hW1] at H
  clear hW1 hf1 hr1 hput hlb hsm hdd hL hk
  go_enter Tryd.func10, Tryd.ntmps10
  go_wp2_with fail
  refine HP.out.mono ?_
  rintro e w1 ⟨u, rfl, hu, hf⟩
  have hf1 := H.out.1.trans (hf.mono fun _ _ f => f.elim)
  have hdel := Del_ok (B := w.heap.size) (⟨#[97]⟩ : ByteArray) (show NodeAt w.heap.size w1 u (.leaf ⟨#[97]⟩ [49]) from hu) (by decide) (H.out.2.1.fr0 hf1) hf1.size trivial (by decide) (by decide)
  have hb := (show NodeAt w.heap.size w1 u (.leaf ⟨#[97]⟩ [49]) from hu).ptr rfl
  obtain ⟨b, rfl⟩ := hb
  have hu' : NodeAt w.heap.size w1 (.pointer (some ⟨b, 0, none⟩)) (.leaf ⟨#[97]⟩ [49]) := hu
  have HU := Lib.hid (And.intro hu' (And.intro hf1 hdel))
  clear hu hu' hf hf1 hdel
  go_wp2_with fail
  refine HU.out.2.2.mono ?_
  rintro e w2 ⟨u2, rfl, hu2, hf2⟩
  obtain rfl : u2 = .pointer none := hu2
  have hl := len_ok (HU.out.1.fr0 hf2)
  rw [show ((Tr.leaf (⟨#[97]⟩ : ByteArray) [49]).len : Int) = 1 from rfl] at hl
  have hdg := dig_ok (HU.out.1.fr0 hf2) ((H.out.2.1.fr0 HU.out.2.1).fr0 hf2)
  rw [H.out.2.2.2.2] at hdg
  have HV := Lib.hid (And.intro hl (And.intro hdg (HU.out.2.1.trans (hf2.mono fun _ _ f => f.elim))))
  clear hl hdg hf2
  go_wp2_with fail
  refine HV.out.1.mono ?_
  rintro e w' ⟨rfl, rfl⟩
  go_wp2_with fail
  refine HV.out.2.1.mono ?_
  rintro e w3 ⟨rfl, hf3⟩
  have HX := Lib.hid (HV.out.2.2.trans (hf3.mono fun _ _ f => f.elim))
  clear hf3
  go_wp2_with fail
  refine (H.out.2.2.1 _).mono ?_
  rintro e w4 ⟨A4, c4, rfl, hO, hf4⟩
  have hs := H.out.2.2.2.1 _ _ c4 _ hO.rd.2.2
  have HY := Lib.hid (And.intro hs (HX.out.next (((Fr.refl No w3).alloc _).next hf4 (fun _ _ f => f.elim)) (fun _ _ f => f.elim)))
  clear hs hO hf4
  go_wp2_with fail
  refine HY.out.1.mono ?_
  rintro e w5 ⟨rfl, hf5⟩
  have HZ := Lib.hid (HY.out.2.next hf5 (fun _ _ f => f.elim))
  clear hf5
  go_wp2_with fail
  go_ret
  exact ⟨rfl, HZ.out⟩
end Go.Proofs.YtlgmodeibmdcgaaDoor
