/- mark: Empty, LinkBytes, Link; ledger.First. -/
import Derived.Test.YtfaooohenicfbaaGreatDoorCat4
set_option linter.unusedVariables false
set_option linter.unusedSimpArgs false
namespace Go.Proofs.YtfaooohenicfbaaGreatDoor
open Go.RowKit

/-- What a link's digest is made of. -/
def linkB (a b c : ByteArray) : Bs := [3] ++ keyB a ++ keyB b ++ keyB c
set_option maxHeartbeats 1000000 in
set_option maxRecDepth 100000 in
theorem link_bytes (w : World) (l r s : ByteArray) (hl : l.size ≤ 1000) (hr : r.size ≤ 1000) (hs : s.size ≤ 1000) :
    Calls Tryz.prog 91 #[.string l, .string r, .string s] w fun e w' => ∃ A c, e = .returned (.slice A (linkB l r s).length c) ∧ Ow Ty.u8 5 w' (fun i => w.heap.size ≤ i) (.slice A (linkB l r s).length c) (linkB l r s) ∧ Fr No w w' := by
  have kc := run_txt
  obtain ⟨W1, hW1⟩ : ∃ W1, W1 = w.alloc (.cells #[.int .u8 3] 5) := ⟨_, rfl⟩
  have hs1 : W1.heap.size = w.heap.size + 1 := by rw [hW1]; simp
  have hf1 : Fr No w W1 := by rw [hW1]; exact (Fr.refl No w).alloc _
  obtain ⟨W2, hW2⟩ : ∃ W2, W2 = txtW W1 l := ⟨_, rfl⟩
  have hf2 : Fr No W1 W2 := by rw [hW2]; exact txt_fr _ _
  obtain ⟨W3, hW3⟩ : ∃ W3, W3 = txtW W2 r := ⟨_, rfl⟩
  have hf3 : Fr No W2 W3 := by rw [hW3]; exact txt_fr _ _
  obtain ⟨W4, hW4⟩ : ∃ W4, W4 = txtW W3 s := ⟨_, rfl⟩
  have hf4 : Fr No W3 W4 := by rw [hW4]; exact txt_fr _ _
  have f34 : Fr No W2 W4 := hf3.trans (hf4.mono fun _ _ f => f.elim)
  have f24 : Fr No W1 W4 := hf2.trans (f34.mono fun _ _ f => f.elim)
  have hcc := concat4 (w := W4.alloc (.cells #[.slice (some ⟨w.heap.size, 0, none⟩) 1 1, .slice (some ⟨w.heap.size + 1, 0, none⟩) l.size (txtC W1 l), .slice (some ⟨W2.heap.size, 0, none⟩) r.size (txtC W2 r), .slice (some ⟨W3.heap.size, 0, none⟩) s.size (txtC W3 s)] 33))
    (x := [3]) (y := keyB l) (z := keyB r) (u := keyB s) (by rw [keyB_len, keyB_len, keyB_len]; exact heap_alloc_new W4 _)
    (rd_new (w := w) (t := 5) (cs := #[.int .u8 3]) (by rw [← hW1]; exact f24.alloc _) rfl (by simp))
    (by rw [← hs1]; exact txt_rd' (by rw [← hW2]; exact f34.alloc _) (by omega))
    (txt_rd' (by rw [← hW3]; exact hf4.alloc _) (by omega))
    (txt_rd' (by rw [← hW4]; exact (Fr.refl No W4).alloc _) (by omega)) (by rw [keyB_len, keyB_len, keyB_len]; simp; omega)
  have hff : Fr No w (W4.alloc (.cells #[.slice (some ⟨w.heap.size, 0, none⟩) 1 1, .slice (some ⟨w.heap.size + 1, 0, none⟩) l.size (txtC W1 l), .slice (some ⟨W2.heap.size, 0, none⟩) r.size (txtC W2 r), .slice (some ⟨W3.heap.size, 0, none⟩) s.size (txtC W3 s)] 33)) := (hf1.trans (f24.mono fun _ _ f => f.elim)).alloc _
  rw [hW4, hW3, hW2, hW1] at hcc hff
  obtain ⟨L, hL⟩ : ∃ L, linkB l r s = L := ⟨_, rfl⟩
  rw [show [3] ++ keyB l ++ keyB r ++ keyB s = linkB l r s from rfl, hL] at hcc
  rw [hL]
  clear hL
  have H := Lib.hid (And.intro hcc hff)
  clear hcc hff hW1 hW2 hW3 hW4 hs1 hf1 hf2 hf3 hf4 f34 f24 hl hr hs
  go_enter Tryz.func91, Tryz.ntmps91
  go_wp2_with fail
  refine H.out.1.mono ?_
  rintro e w1 ⟨A, c, rfl, hO, hf⟩
  have H1 := Lib.hid (And.intro hO (H.out.2.trans (hf.mono fun _ _ f => f.elim)))
  have H2 := Lib.hid H.out.2.size
  clear hO hf
  go_wp2_with fail
  go_ret
  exact ⟨A, c, rfl, H1.out.1.mono fun i hi _ => Nat.le_trans H2.out hi, H1.out.2⟩

def dE : ByteArray := sha [0]
set_option maxHeartbeats 1000000 in
set_option maxRecDepth 100000 in
theorem mark_empty {w : World} (hk : KAt w) : Calls Tryz.prog 43 #[] w fun e w' => e = .returned (.string dE) ∧ Fr No w w' := by
  have hf : Fr No w (w.alloc (.cells #[.int .u8 0] 5)) := (Fr.refl No w).alloc _
  have hs := sum_ok (c := 1) (rd_new (w := w) (t := 5) (cs := #[.int .u8 0]) (p := [0]) (Fr.refl No _) rfl (by simp)) (hk.fr0 hf) (by simp)
  have H := Lib.hid (And.intro hs hf)
  clear hs hf hk
  go_enter Tryz.func43, Tryz.ntmps43
  go_wp2_with fail
  refine H.out.1.mono ?_
  rintro e w1 ⟨rfl, hf⟩
  go_wp2_with fail
  go_ret
  exact ⟨rfl, H.out.2.trans (hf.mono fun _ _ f => f.elim)⟩
def linkD (l r : ByteArray) (p : Bs) : ByteArray := sha (linkB l r (sha p))
set_option maxHeartbeats 1000000 in
set_option maxRecDepth 100000 in
theorem link_ok {w : World} {G : Nat → Prop} {A : Option Addr} {c : Nat} {p : Bs} (l r : ByteArray) (h : Rd Ty.u8 w G A p) (hk : KAt w) (hl : l.size ≤ 1000) (hr : r.size ≤ 1000) (hp : p.length ≤ 10000000000) (hz : (sha p).size ≤ 1000) :
    Calls Tryz.prog 61 #[.string l, .string r, .slice A p.length c] w fun e w' => e = .returned (.string (linkD l r p)) ∧ Fr No w w' := by
  have h1 := sum_ok (c := c) h hk hp
  obtain ⟨s, hs⟩ : ∃ s, sha p = s := ⟨_, rfl⟩
  have hlen : (linkB l r s).length ≤ 10000000000 := by
    unfold linkB
    rw [List.length_append, List.length_append, List.length_append, keyB_len, keyB_len, keyB_len]
    rw [hs] at hz
    simp; omega
  rw [hs] at h1 hz
  have H := Lib.hid (And.intro h1 (And.intro hlen (And.intro hk (fun w : World => link_bytes w l r s hl hr hz))))
  unfold linkD
  rw [hs]
  clear h1 hlen hk hl hr hz hp h hs
  go_enter Tryz.func61, Tryz.ntmps61
  go_wp2_with fail
  refine H.out.1.mono ?_
  rintro e w1 ⟨rfl, hf1⟩
  have H1 := Lib.hid hf1
  clear hf1
  go_wp2_with fail
  refine (H.out.2.2.2 _).mono ?_
  rintro e w2 ⟨A2, c2, rfl, hO, hf2⟩
  have hfw := H1.out.trans (hf2.mono fun _ _ f => f.elim)
  have H2 := Lib.hid (And.intro (sum_ok (c := c2) hO.rd.2.2 (H.out.2.2.1.fr0 hfw) H.out.2.1) hfw)
  clear hO hf2 hfw
  go_wp2_with fail
  refine H2.out.1.mono ?_
  rintro e w3 ⟨rfl, hf3⟩
  have H3 := Lib.hid (H2.out.2.trans (hf3.mono fun _ _ f => f.elim))
  clear hf3
  go_wp2_with fail
  go_ret
  exact ⟨rfl, H3.out⟩

theorem sha_size (p : Bs) : (sha p).size = 32 := by
  show (shaB p).toArray.size = 32
  rw [List.size_toArray]
  exact outB_len _ 8
/-- The first digest. -/
def firstD : ByteArray := linkD dE dE []
set_option maxHeartbeats 1000000 in
set_option maxRecDepth 100000 in
theorem first_ok {w : World} (hk : KAt w) : Calls Tryz.prog 42 #[] w fun e w' => e = .returned (.string firstD) ∧ Fr No w w' := by
  have he : dE.size ≤ 1000 := by unfold dE; rw [sha_size]; decide
  have hz : (sha []).size ≤ 1000 := by rw [sha_size]; decide
  have H := Lib.hid (And.intro (fun (w1 : World) (f : Fr No w w1) => mark_empty (hk.fr0 f)) (fun (w1 : World) (f : Fr No w w1) => link_ok (G := No) (A := none) (c := 0) (p := []) dE dE Rd.nil (hk.fr0 f) he he (by simp) hz))
  clear he hz hk
  go_enter Tryz.func42, Tryz.ntmps42
  go_wp2_with fail
  refine (H.out.1 _ (Fr.refl _ _)).mono ?_
  rintro e w1 ⟨rfl, hf1⟩
  have H1 := Lib.hid hf1
  clear hf1
  go_wp2_with fail
  refine (H.out.1 _ H1.out).mono ?_
  rintro e w2 ⟨rfl, hf2⟩
  have H2 := Lib.hid (H1.out.trans (hf2.mono fun _ _ f => f.elim))
  clear hf2
  go_wp2_with fail
  refine (H.out.2 _ H2.out).mono ?_
  rintro e w3 ⟨rfl, hf3⟩
  have H3 := Lib.hid (H2.out.trans (hf3.mono fun _ _ f => f.elim))
  clear hf3
  go_wp2_with fail
  go_ret
  exact ⟨rfl, H3.out⟩
end Go.Proofs.YtfaooohenicfbaaGreatDoor
