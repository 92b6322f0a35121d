/- Reference 4 (mark): Empty, LeafBytes, NodeBytes. Lists of items of one's own. -/
import Derived.Test.YtlgmodeibmdcgaaDoorRefSum2
import Derived.Test.YtlgmodeibmdcgaaDoorTrie
set_option linter.unusedVariables false
set_option linter.unusedSimpArgs false
namespace Go.Proofs.YtlgmodeibmdcgaaDoor
open Go.RowKit

set_option maxHeartbeats 1000000 in
set_option maxRecDepth 100000 in
theorem ref_empty (w : World) : Calls Tryd.prog 33 #[] w fun e w' => e = .returned (.string dE) ∧ Fr No w w' := by
  have hf : Fr No w (w.alloc (.cells #[.int .u8 0] 5)) := (Fr.refl No w).alloc _
  have hs := ref_sum (c := 1) (rd_new (w := w) (t := 5) (cs := #[.int .u8 0]) (p := [0]) (Fr.refl No _) rfl (by simp)) (by simp)
  have H := Lib.hid (And.intro hs hf)
  clear hs hf
  go_enter Tryd.func33, Tryd.ntmps33
  go_wp2_with fail
  refine H.out.1.mono ?_
  rintro e w1 ⟨rfl, hf⟩
  go_wp2_with fail
  go_ret
  exact ⟨rfl, H.out.2.trans (hf.mono fun _ _ f => f.elim)⟩

set_option maxHeartbeats 1000000 in
set_option maxRecDepth 100000 in
theorem ref_leafb {w : World} {F : Nat → Prop} {A : Option Addr} {c : Nat} {row : Bs} (key : ByteArray) (h : Rd Ty.u8 w F A row) (hk : key.size ≤ 1000) (hr : row.length ≤ 100000) :
    Calls Tryd.prog 26 #[.string key, .slice A row.length c] w fun e w' => ∃ A c, e = .returned (.slice A (leafB key row).length c) ∧ Ow Ty.u8 5 w' (fun i => w.heap.size ≤ i) (.slice A (leafB key row).length c) (leafB key row) ∧ Fr No w w' := by
  have kc := run_txt
  have hk0 : (0 : Int) ≤ (key.size : Int) := Int.natCast_nonneg _
  have hk1 : (key.size : Int) ≤ 1000 := by omega
  have hf1 : Fr No w (w.alloc (.cells #[.int .u8 1] 5)) := (Fr.refl No w).alloc _
  have hone := rd_new (w := w) (t := 5) (cs := #[.int .u8 1]) (p := [1]) (Fr.refl No _) rfl (by simp)
  have hnum := num_ok (w := w.alloc (.cells #[.int .u8 1] 5)) (n := key.size) (k := 4) (by omega) (by decide)
  rw [show ((4 : Nat) : Int) = 4 from rfl] at hnum
  have H := Lib.hid (And.intro hnum (And.intro hone (And.intro hf1 (And.intro h (And.intro hk hr)))))
  obtain ⟨M, hM⟩ : ∃ M, leafB key row = M := ⟨_, rfl⟩
  have HM := Lib.hid hM
  rw [hM]
  clear hM
  clear hnum hone hf1 h hk hr
  go_enter Tryd.func26, Tryd.ntmps26
  go_wp2_with fail
  refine H.out.1.mono ?_
  rintro e w1 ⟨A1, c1, rfl, hO, hf⟩
  have H1 := Lib.hid (And.intro hO hf)
  clear hO hf
  have hj1 := Lib.hid (ref_join (c := 1) (d := c1) (H.out.2.1.fr0 H1.out.2) (H1.out.1.rd.2.2.mono fun _ _ _ => trivial) (by rw [beN_len]; simp))
  rw [beN_len] at hj1
  simp only [List.length_singleton] at hj1
  go_wp2_with fail
  refine hj1.out.mono ?_
  rintro e w2 ⟨A2, c2, rfl, hO, hf⟩
  have H2 := Lib.hid (And.intro hO (H1.out.2.trans (hf.mono fun _ _ f => f.elim)))
  clear hO hf hj1
  obtain ⟨W3, hW3⟩ : ∃ W, W = txtW w2 key := ⟨_, rfl⟩
  have hf3 : Fr No w2 W3 := by rw [hW3]; exact txt_fr _ _
  have hj2 := ref_join (c := c2) (d := txtC w2 key) ((H2.out.1.rd.2.2.fr0 hf3).mono (G := fun _ => True) fun _ _ _ => trivial) (txt_rd' (w := w2) (s := key) (by rw [← hW3]; exact Fr.refl No W3) (by have := H.out.2.2.2.2.1; omega)) (by rw [keyB_len, List.length_append, beN_len]; have := H.out.2.2.2.2.1; simp; omega)
  rw [keyB_len, hW3] at hj2
  have HJ2 := Lib.hid (And.intro hj2 (hW3 ▸ hf3))
  clear hj2 hW3 hf3
  obtain ⟨L, hL⟩ : ∃ L, [1] ++ beN key.size 4 = L := ⟨_, rfl⟩
  have hL' := Lib.hid hL
  rw [hL] at HJ2 H2 ⊢
  clear hL
  go_wp2_with fail
  refine HJ2.out.1.mono ?_
  rintro e w4 ⟨A4, c4, rfl, hO, hf⟩
  have H4 := Lib.hid (And.intro hO (H2.out.2.trans ((HJ2.out.2.trans (hf.mono fun _ _ f => f.elim)).mono fun _ _ f => f.elim)))
  clear hO hf
  have hf04 : Fr No w w4 := H.out.2.2.1.trans (H4.out.2.mono fun _ _ f => f.elim)
  have hj3 := ref_join (c := c4) (d := c) (H4.out.1.rd.2.2.mono (G := fun _ => True) fun _ _ _ => trivial) ((H.out.2.2.2.1.fr0 hf04).mono fun _ _ _ => trivial) (by have := hL'.out; have := H.out.2.2.2.2.1; have := H.out.2.2.2.2.2; rw [← hL'.out, List.length_append, List.length_append, keyB_len, beN_len]; simp; omega)
  have e : L ++ keyB key ++ row = M := by rw [← HM.out, ← hL'.out]; rfl
  rw [e] at hj3
  have HJ3 := Lib.hid (And.intro hj3 hf04)
  clear hj3 hf04 e
  obtain ⟨L2, hL2⟩ : ∃ L2, L ++ keyB key = L2 := ⟨_, rfl⟩
  rw [hL2] at HJ3 H4 ⊢
  clear hL2
  go_wp2_with fail
  refine HJ3.out.1.mono ?_
  rintro e w5 ⟨A5, c5, rfl, hO, hf⟩
  have H5 := Lib.hid (And.intro hO (HJ3.out.2.trans (hf.mono fun _ _ f => f.elim)))
  clear hO hf
  go_wp2_with fail
  go_ret
  exact ⟨A5, c5, rfl, H5.out.1.mono (G := fun i => w.heap.size ≤ i) fun i hi _ => by have := HJ3.out.2.size; omega, H5.out.2⟩

set_option maxHeartbeats 1000000 in
set_option maxRecDepth 100000 in
theorem ref_nodeb (w : World) (l r : ByteArray) (hl : l.size ≤ 1000) (hr : r.size ≤ 1000) :
    Calls Tryd.prog 22 #[.string l, .string r] w fun e w' => ∃ A c, e = .returned (.slice A (nodeB l r).length c) ∧ Rd Ty.u8 w' (fun i => w.heap.size ≤ i) A (nodeB l r) ∧ Fr No w w' := by
  have kc := run_txt
  have e : keyB ((⟨#[2]⟩ : ByteArray) ++ l ++ r) = nodeB l r := by
    unfold keyB nodeB keyB
    simp
  have es : ((⟨#[2]⟩ : ByteArray) ++ l ++ r).size = (nodeB l r).length := by rw [← e, keyB_len]
  have hsz : ((⟨#[2]⟩ : ByteArray) ++ l ++ r).size ≤ 10000 := by
    rw [es]; unfold nodeB; rw [List.length_append, List.length_append, keyB_len, keyB_len]; simp; omega
  have g1 : ¬ 9223372036854775807 < 1 + l.size := by omega
  have g2 : ¬ 9223372036854775807 < 1 + l.size + r.size := by omega
  have es' : 1 + l.size + r.size = (nodeB l r).length := by unfold nodeB; rw [List.length_append, List.length_append, keyB_len, keyB_len]; simp
  have hrd := txt_rd w ((⟨#[2]⟩ : ByteArray) ++ l ++ r) (by omega)
  have hrd' : Rd Ty.u8 (txtW w ((⟨#[2]⟩ : ByteArray) ++ l ++ r)) (fun i => w.heap.size ≤ i) (some ⟨w.heap.size, 0, none⟩) (nodeB l r) := by rw [← e]; exact hrd
  have H := Lib.hid (And.intro hrd' (And.intro es' (txt_fr w ((⟨#[2]⟩ : ByteArray) ++ l ++ r))))
  clear hrd hrd' es es' e hsz hl hr
  go_enter Tryd.func22, Tryd.ntmps22
  go_wp2_with fail
  go_ret
  rw [← H.out.2.1]
  exact ⟨_, _, rfl, H.out.1, H.out.2.2⟩
end Go.Proofs.YtlgmodeibmdcgaaDoor
