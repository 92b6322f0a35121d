/- Texts of this claim, one behind the other: Cat4, Mark, Trie2, Trie3. -/
import Derived.Test.YtlmhphejgahfbaaGreatDoorMrowledgernil9
import Derived.Test.YtlmhphejgahfbaaGreatDoorMrowledgernil13
/- slices.Concat of four. -/
set_option linter.unusedVariables false
set_option linter.unusedSimpArgs false
namespace Go.Proofs.YtlmhphejgahfbaaGreatDoor
open Go.RowKit

set_option maxHeartbeats 2000000 in
set_option maxRecDepth 100000 in
theorem concat4 {w : World} {g : Nat} {tt : TypeId} {A1 A2 A3 B4 : Option Addr} {c1 c2 c3 d4 : Nat} {x y z u : Bs} (hb : w.heap[g]? = some (.cells #[.slice A1 x.length c1, .slice A2 y.length c2, .slice A3 z.length c3, .slice B4 u.length d4] tt (0, 0)))
    (h1 : Rd Ty.u8 w (fun _ => True) A1 x) (h2 : Rd Ty.u8 w (fun _ => True) A2 y) (h3 : Rd Ty.u8 w (fun _ => True) A3 z) (h4 : Rd Ty.u8 w (fun _ => True) B4 u) (hl : x.length + y.length + z.length + u.length ≤ 1000000000) :
    Calls Tryz.prog 127 #[.slice (some ⟨g, 0, none⟩) 4 4] w fun e w' => ∃ A c, e = .returned (.slice A (x ++ y ++ z ++ u).length c) ∧ Ow Ty.u8 5 w' (fun i => w.heap.size ≤ i) (.slice A (x ++ y ++ z ++ u).length c) (x ++ y ++ z ++ u) ∧ Fr No w w' := by
  have k0 := blk_cell hb 0
  have k1 := blk_cell hb 1
  have k2 := blk_cell hb 2
  have k3 := blk_cell hb 3
  simp at k0 k1 k2 k3
  have n1 : (x.length : Int) ≤ 1000000000 := by omega
  have n2 : (y.length : Int) ≤ 1000000000 := by omega
  have n3 : (z.length : Int) ≤ 1000000000 := by omega
  have n4 : (u.length : Int) ≤ 1000000000 := by omega
  have HG := Lib.hid (fun w => grow_ok w ((x.length : Int) + (y.length : Int) + (z.length : Int) + (u.length : Int)) (by omega) (by omega))
  have HH := Lib.hid (And.intro h1 (And.intro h2 (And.intro h3 (And.intro h4 (And.intro hl hb)))))
  clear h1 h2 h3 h4 hl hb
  have e1 : (x ++ y ++ z ++ u).length = x.length + y.length + z.length + u.length := by rw [List.length_append, List.length_append, List.length_append]
  rw [e1]
  clear e1
  go_enter Tryz.func127, Tryz.ntmps127
  go_wp2_with fail
  refine wp_loop_rounds 5 ?_
  rw [rounds_succ]
  go_wp2_with fail
  rw [rounds_succ]
  go_wp2_with fail
  rw [rounds_succ]
  go_wp2_with fail
  rw [rounds_succ]
  go_wp2_with fail
  rw [rounds_succ]
  go_wp2_with fail
  refine (HG.out _).mono ?_
  rintro e1 w1 ⟨A0, c0, rfl, hO, hf⟩
  have k0 := hf.cell k0 (fun f => f)
  have k1 := hf.cell k1 (fun f => f)
  have k2 := hf.cell k2 (fun f => f)
  have k3 := hf.cell k3 (fun f => f)
  have H0 := Lib.hid (And.intro hO hf)
  clear hO hf
  go_wp2_with fail
  refine wp_loop_rounds 5 ?_
  rw [rounds_succ]
  obtain ⟨cs1, hrow1, hat1⟩ := (HH.out.1.fr0 H0.out.2).at
  obtain ⟨A4, c4, w4, hrun4, hO4, hg4, _⟩ := run_ow_append (P := Tryz.prog) (ty := 46) (ty' := 46) Ty.u8 H0.out.1 (.int .u8 0) 1 Tryz.underlying46 info_u8 rfl (by decide) (by decide) c1 (ys := x) (hrow1.imp fun _ _ h => h) hat1 (by have := HH.out.2.2.2.2.1; simp; omega)
  simp only [List.length_nil, Nat.zero_add, List.nil_append] at hrun4 hO4
  have hf4 : Fr No w w4 := H0.out.2.grown hg4 fun k hk => .inr (H0.out.1.own hk).1
  have hO4' : Ow Ty.u8 5 w4 (fun i => w.heap.size ≤ i) (.slice A4 x.length c4) x := hO4.mono fun i hi _ => by have := H0.out.2.size; rcases hi with h | h <;> omega
  have k0' := hf4.cell (blk_cell HH.out.2.2.2.2.2 0) (fun f => f)
  have H4 := Lib.hid (And.intro hO4' hf4)
  clear hO4 hO4' hf4 hg4 hrow1 hat1 k0'
  go_wp2_with (at_builtin; refine wpList_plain rfl fun K hK => wp_append_run _ _ _ _ rfl rfl rfl hrun4 (hK _ _ ?_))
  clear hrun4
  have k1 := H4.out.2.cell (blk_cell HH.out.2.2.2.2.2 1) (fun f => f)
  simp at k1
  rw [rounds_succ]
  obtain ⟨cs2, hrow2, hat2⟩ := (HH.out.2.1.fr0 H4.out.2).at
  obtain ⟨A5, c5, w5, hrun5, hO5, hg5, _⟩ := run_ow_append (P := Tryz.prog) (ty := 46) (ty' := 46) Ty.u8 H4.out.1 (.int .u8 0) 1 Tryz.underlying46 info_u8 rfl (by decide) (by decide) c2 (ys := y) (hrow2.imp fun _ _ h => h) hat2 (by have := HH.out.2.2.2.2.1; omega)
  have hf5 : Fr No w w5 := H4.out.2.grown hg5 fun k hk => .inr (H4.out.1.own hk).1
  have hO5' : Ow Ty.u8 5 w5 (fun i => w.heap.size ≤ i) (.slice A5 (x.length + y.length) c5) (x ++ y) := hO5.mono fun i hi _ => by have := H4.out.2.size; rcases hi with h | h <;> omega
  have H5 := Lib.hid (And.intro hO5' hf5)
  clear hO5 hO5' hf5 hg5 hrow2 hat2
  go_wp2_with (at_builtin; refine wpList_plain rfl fun K hK => wp_append_run _ _ _ _ rfl rfl rfl hrun5 (hK _ _ ?_))
  clear hrun5
  have k2 := H5.out.2.cell (blk_cell HH.out.2.2.2.2.2 2) (fun f => f)
  simp at k2
  rw [rounds_succ]
  obtain ⟨cs3, hrow3, hat3⟩ := (HH.out.2.2.1.fr0 H5.out.2).at
  obtain ⟨A6, c6, w6, hrun6, hO6, hg6, _⟩ := run_ow_append (P := Tryz.prog) (ty := 46) (ty' := 46) Ty.u8 H5.out.1 (.int .u8 0) 1 Tryz.underlying46 info_u8 rfl (by decide) (by decide) c3 (ys := z) (hrow3.imp fun _ _ h => h) hat3 (by have := HH.out.2.2.2.2.1; rw [List.length_append]; omega)
  rw [List.length_append] at hrun6 hO6
  have hf6 : Fr No w w6 := H5.out.2.grown hg6 fun k hk => .inr (H5.out.1.own hk).1
  have hO6' : Ow Ty.u8 5 w6 (fun i => w.heap.size ≤ i) (.slice A6 (x.length + y.length + z.length) c6) (x ++ y ++ z) := hO6.mono fun i hi _ => by have := H5.out.2.size; rcases hi with h | h <;> omega
  have H6 := Lib.hid (And.intro hO6' hf6)
  clear hO6 hO6' hf6 hg6 hrow3 hat3
  go_wp2_with (at_builtin; refine wpList_plain rfl fun K hK => wp_append_run _ _ _ _ rfl rfl rfl hrun6 (hK _ _ ?_))
  clear hrun6
  have k3 := H6.out.2.cell (blk_cell HH.out.2.2.2.2.2 3) (fun f => f)
  simp at k3
  rw [rounds_succ]
  obtain ⟨cs4, hrow4, hat4⟩ := (HH.out.2.2.2.1.fr0 H6.out.2).at
  obtain ⟨A7, c7, w7, hrun7, hO7, hg7, _⟩ := run_ow_append (P := Tryz.prog) (ty := 46) (ty' := 46) Ty.u8 H6.out.1 (.int .u8 0) 1 Tryz.underlying46 info_u8 rfl (by decide) (by decide) d4 (ys := u) (hrow4.imp fun _ _ h => h) hat4 (by have := HH.out.2.2.2.2.1; rw [List.length_append, List.length_append]; omega)
  rw [List.length_append, List.length_append] at hrun7 hO7
  have hf7 : Fr No w w7 := H6.out.2.grown hg7 fun k hk => .inr (H6.out.1.own hk).1
  have hO7' : Ow Ty.u8 5 w7 (fun i => w.heap.size ≤ i) (.slice A7 (x.length + y.length + z.length + u.length) c7) (x ++ y ++ z ++ u) := hO7.mono fun i hi _ => by have := H6.out.2.size; rcases hi with h | h <;> omega
  have H7 := Lib.hid (And.intro hO7' hf7)
  clear hO7 hO7' hf7 hg7 hrow4 hat4
  go_wp2_with (at_builtin; refine wpList_plain rfl fun K hK => wp_append_run _ _ _ _ rfl rfl rfl hrun7 (hK _ _ ?_))
  clear hrun7
  rw [rounds_succ]
  go_wp2_with fail
  go_ret
  exact ⟨A7, c7, rfl, H7.out.1, H7.out.2⟩
end Go.Proofs.YtlmhphejgahfbaaGreatDoor
/- mark: Empty, LinkBytes, Link; ledger.First. -/
set_option linter.unusedVariables false
set_option linter.unusedSimpArgs false
namespace Go.Proofs.YtlmhphejgahfbaaGreatDoor
open Go.RowKit

/-- What a link's digest is made of. -/
def linkB (a b c : ByteArray) : Bs := [3] ++ keyB a ++ keyB b ++ keyB c
set_option maxHeartbeats 1000000 in
set_option maxRecDepth 100000 in
theorem link_bytes (w : World) (l r s : ByteArray) (hl : l.size ≤ 1000) (hr : r.size ≤ 1000) (hs : s.size ≤ 1000) :
    Calls Tryz.prog 154 #[.string l, .string r, .string s] w fun e w' => ∃ A c, e = .returned (.slice A (linkB l r s).length c) ∧ Ow Ty.u8 5 w' (fun i => w.heap.size ≤ i) (.slice A (linkB l r s).length c) (linkB l r s) ∧ Fr No w w' := by
  have kc := run_txt
  obtain ⟨W1, hW1⟩ : ∃ W1, W1 = w.alloc (.cells #[.int .u8 3] 5) := ⟨_, rfl⟩
  have hs1 : W1.heap.size = w.heap.size + 1 := by rw [hW1]; simp
  have hf1 : Fr No w W1 := by rw [hW1]; exact (Fr.refl No w).alloc _
  obtain ⟨W2, hW2⟩ : ∃ W2, W2 = txtW W1 l := ⟨_, rfl⟩
  have hf2 : Fr No W1 W2 := by rw [hW2]; exact txt_fr _ _
  obtain ⟨W3, hW3⟩ : ∃ W3, W3 = txtW W2 r := ⟨_, rfl⟩
  have hf3 : Fr No W2 W3 := by rw [hW3]; exact txt_fr _ _
  obtain ⟨W4, hW4⟩ : ∃ W4, W4 = txtW W3 s := ⟨_, rfl⟩
  have hf4 : Fr No W3 W4 := by rw [hW4]; exact txt_fr _ _
  have f34 : Fr No W2 W4 := hf3.trans (hf4.mono fun _ _ f => f.elim)
  have f24 : Fr No W1 W4 := hf2.trans (f34.mono fun _ _ f => f.elim)
  have hcc := concat4 (w := W4.alloc (.cells #[.slice (some ⟨w.heap.size, 0, none⟩) 1 1, .slice (some ⟨w.heap.size + 1, 0, none⟩) l.size (txtC W1 l), .slice (some ⟨W2.heap.size, 0, none⟩) r.size (txtC W2 r), .slice (some ⟨W3.heap.size, 0, none⟩) s.size (txtC W3 s)] 46))
    (x := [3]) (y := keyB l) (z := keyB r) (u := keyB s) (by rw [keyB_len, keyB_len, keyB_len]; exact heap_alloc_new W4 _)
    (rd_new (w := w) (t := 5) (cs := #[.int .u8 3]) (by rw [← hW1]; exact f24.alloc _) rfl (by simp))
    (by rw [← hs1]; exact txt_rd' (by rw [← hW2]; exact f34.alloc _) (by omega))
    (txt_rd' (by rw [← hW3]; exact hf4.alloc _) (by omega))
    (txt_rd' (by rw [← hW4]; exact (Fr.refl No W4).alloc _) (by omega)) (by rw [keyB_len, keyB_len, keyB_len]; simp; omega)
  have hff : Fr No w (W4.alloc (.cells #[.slice (some ⟨w.heap.size, 0, none⟩) 1 1, .slice (some ⟨w.heap.size + 1, 0, none⟩) l.size (txtC W1 l), .slice (some ⟨W2.heap.size, 0, none⟩) r.size (txtC W2 r), .slice (some ⟨W3.heap.size, 0, none⟩) s.size (txtC W3 s)] 46)) := (hf1.trans (f24.mono fun _ _ f => f.elim)).alloc _
  rw [hW4, hW3, hW2, hW1] at hcc hff
  obtain ⟨L, hL⟩ : ∃ L, linkB l r s = L := ⟨_, rfl⟩
  rw [show [3] ++ keyB l ++ keyB r ++ keyB s = linkB l r s from rfl, hL] at hcc
  rw [hL]
  clear hL
  have H := Lib.hid (And.intro hcc hff)
  clear hcc hff hW1 hW2 hW3 hW4 hs1 hf1 hf2 hf3 hf4 f34 f24 hl hr hs
  go_enter Tryz.func154, Tryz.ntmps154
  go_wp2_with fail
  refine H.out.1.mono ?_
  rintro e w1 ⟨A, c, rfl, hO, hf⟩
  have H1 := Lib.hid (And.intro hO (H.out.2.trans (hf.mono fun _ _ f => f.elim)))
  have H2 := Lib.hid H.out.2.size
  clear hO hf
  go_wp2_with fail
  go_ret
  exact ⟨A, c, rfl, H1.out.1.mono fun i hi _ => Nat.le_trans H2.out hi, H1.out.2⟩

def linkD (l r : ByteArray) (p : Bs) : ByteArray := sha (linkB l r (sha p))
set_option maxHeartbeats 1000000 in
set_option maxRecDepth 100000 in
theorem link_ok {w : World} {G : Nat → Prop} {A : Option Addr} {c : Nat} {p : Bs} (l r : ByteArray) (h : Rd Ty.u8 w G A p) (hk : KAt w) (hl : l.size ≤ 1000) (hr : r.size ≤ 1000) (hp : p.length ≤ 10000000000) (hz : (sha p).size ≤ 1000) :
    Calls Tryz.prog 83 #[.string l, .string r, .slice A p.length c] w fun e w' => e = .returned (.string (linkD l r p)) ∧ Fr No w w' := by
  have h1 := sum_ok (c := c) h hk hp
  obtain ⟨s, hs⟩ : ∃ s, sha p = s := ⟨_, rfl⟩
  have hlen : (linkB l r s).length ≤ 10000000000 := by
    unfold linkB
    rw [List.length_append, List.length_append, List.length_append, keyB_len, keyB_len, keyB_len]
    rw [hs] at hz
    simp; omega
  rw [hs] at h1 hz
  have H := Lib.hid (And.intro h1 (And.intro hlen (And.intro hk (fun w : World => link_bytes w l r s hl hr hz))))
  unfold linkD
  rw [hs]
  clear h1 hlen hk hl hr hz hp h hs
  go_enter Tryz.func83, Tryz.ntmps83
  go_wp2_with fail
  refine H.out.1.mono ?_
  rintro e w1 ⟨rfl, hf1⟩
  have H1 := Lib.hid hf1
  clear hf1
  go_wp2_with fail
  refine (H.out.2.2.2 _).mono ?_
  rintro e w2 ⟨A2, c2, rfl, hO, hf2⟩
  have hfw := H1.out.trans (hf2.mono fun _ _ f => f.elim)
  have H2 := Lib.hid (And.intro (sum_ok (c := c2) hO.rd.2.2 (H.out.2.2.1.fr0 hfw) H.out.2.1) hfw)
  clear hO hf2 hfw
  go_wp2_with fail
  refine H2.out.1.mono ?_
  rintro e w3 ⟨rfl, hf3⟩
  have H3 := Lib.hid (H2.out.2.trans (hf3.mono fun _ _ f => f.elim))
  clear hf3
  go_wp2_with fail
  go_ret
  exact ⟨rfl, H3.out⟩

/-- The first digest. -/
def firstD : ByteArray := linkD dE dE []
set_option maxHeartbeats 1000000 in
set_option maxRecDepth 100000 in
theorem first_ok {w : World} (hk : KAt w) : Calls Tryz.prog 35 #[] w fun e w' => e = .returned (.string firstD) ∧ Fr No w w' := by
  have he : dE.size ≤ 1000 := by unfold dE; rw [sha_size]; decide
  have hz : (sha []).size ≤ 1000 := by rw [sha_size]; decide
  have H := Lib.hid (And.intro (fun (w1 : World) (f : Fr No w w1) => mark_empty (hk.fr0 f)) (fun (w1 : World) (f : Fr No w w1) => link_ok (G := No) (A := none) (c := 0) (p := []) dE dE Rd.nil (hk.fr0 f) he he (by simp) hz))
  clear he hz hk
  go_enter Tryz.func35, Tryz.ntmps35
  go_wp2_with fail
  refine (H.out.1 _ (Fr.refl _ _)).mono ?_
  rintro e w1 ⟨rfl, hf1⟩
  have H1 := Lib.hid hf1
  clear hf1
  go_wp2_with fail
  refine (H.out.1 _ H1.out).mono ?_
  rintro e w2 ⟨rfl, hf2⟩
  have H2 := Lib.hid (H1.out.trans (hf2.mono fun _ _ f => f.elim))
  clear hf2
  go_wp2_with fail
  refine (H.out.2 _ H2.out).mono ?_
  rintro e w3 ⟨rfl, hf3⟩
  have H3 := Lib.hid (H2.out.trans (hf3.mono fun _ _ f => f.elim))
  clear hf3
  go_wp2_with fail
  go_ret
  exact ⟨rfl, H3.out⟩
end Go.Proofs.YtlmhphejgahfbaaGreatDoor
/- The program's tree: half, with, Get, Halves, Leaf, apart, put, del. -/
set_option linter.unusedVariables false
set_option linter.unusedSimpArgs false
namespace Go.Proofs.YtlmhphejgahfbaaGreatDoor
open Go.RowKit

theorem bit_of (p : ByteArray) (d : Nat) : bitN p d = 0 ∧ bitB p d = false ∨ bitN p d = 1 ∧ bitB p d = true := by
  have := bitN_lt p d
  unfold bitB
  rcases Nat.lt_or_ge (bitN p d) 1 with h | h
  · have : bitN p d = 0 := by omega
    exact .inl ⟨this, by rw [this]; rfl⟩
  · have : bitN p d = 1 := by omega
    exact .inr ⟨this, by rw [this]; rfl⟩

set_option maxHeartbeats 1000000 in
set_option maxRecDepth 100000 in
theorem half_cells {w : World} {b : Nat} {vl vr : Value} {p : ByteArray} {d : Nat} (c0 : w.cell? ⟨b, 0, none⟩ = some vl) (c1 : w.cell? ⟨b, 1, none⟩ = some vr) (hp : p.size = 32) (hd : d < 256) :
    Calls Tryz.prog 126 #[.pointer (some ⟨b, 0, none⟩), .string p, .int .i64 (d : Int)] w fun e w' => e = .returned (if bitB p d then vr else vl) ∧ w' = w := by
  have hb := sha_bit p d (by omega) (by omega) w
  rcases bit_of p d with ⟨e0, e1⟩ | ⟨e0, e1⟩
  all_goals
    rw [e0] at hb
    rw [e1]
    simp only [Bool.false_eq_true, ↓reduceIte, Int.natCast_zero, Int.natCast_one] at hb ⊢
    have H := Lib.hid hb
    clear hb e0 e1 hp hd
    go_enter Tryz.func126, Tryz.ntmps126
    go_wp2_with fail
    refine H.out.mono ?_
    rintro e w' ⟨rfl, rfl⟩
    go_wp2_with fail
    go_ret
    exact ⟨rfl, rfl⟩
/-- The half is the same, whatever has been made since. -/
theorem half_base {B : Nat → Prop} {w w1 : World} {v : Value} {l r : Tr} {p : ByteArray} {d : Nat} (h : NodeAt B w v (.node l r)) (f : Fr No w w1) (hp : p.size = 32) (hd : d < 256) :
    Calls Tryz.prog 126 #[v, .string p, .int .i64 (d : Int)] w1 fun e w' => (∃ u, e = .returned u ∧ NodeAt B w u (if bitB p d then r else l)) ∧ w' = w1 := by
  obtain ⟨b, vl, vr, rfl, _, h3, h4, h5⟩ := h
  refine (half_cells (f.cell (blk_cell h3 0) (fun f => f)) (f.cell (blk_cell h3 1) (fun f => f)) hp hd).mono ?_
  rintro e w' ⟨rfl, rfl⟩
  refine ⟨⟨_, rfl, ?_⟩, rfl⟩
  cases bitB p d
  · exact h4
  · exact h5
theorem half_ok {B : Nat → Prop} {w : World} {v : Value} {l r : Tr} {p : ByteArray} {d : Nat} (h : NodeAt B w v (.node l r)) (hp : p.size = 32) (hd : d < 256) :
    Calls Tryz.prog 126 #[v, .string p, .int .i64 (d : Int)] w fun e w' => (∃ u, e = .returned u ∧ NodeAt B w u (if bitB p d then r else l)) ∧ w' = w := half_base h (Fr.refl _ _) hp hd

set_option maxHeartbeats 1000000 in
set_option maxRecDepth 100000 in
theorem with_ok {B : Nat → Prop} {w : World} {v vx : Value} {l r x : Tr} {p : ByteArray} {d : Nat} (h : NodeAt B w v (.node l r)) (hx : NodeAt B w vx x) (hp : p.size = 32) (hd : d < 256) (hk : KAt w) (hB : ∀ i, w.heap.size ≤ i → B i) (fl : l.Full) (fr : r.Full) (fx : x.Full) (hn : l.len + r.len + x.len ≤ 1000000) :
    Calls Tryz.prog 228 #[v, .string p, .int .i64 (d : Int), vx] w fun e w' => ∃ u, e = .returned u ∧ NodeAt B w' u (if bitB p d then Tr.join l x else Tr.join x r) ∧ Fr No w w' := by
  obtain ⟨b, vl, vr, rfl, _, h3, h4, h5⟩ := h
  have c0 := blk_cell h3 0
  have c1 := blk_cell h3 1
  simp at c0 c1
  have hb := sha_bit p d (by omega) (by omega) w
  have hj1 := join_ok hx h5 hk hB fx fr (by omega)
  have hj2 := join_ok h4 hx hk hB fl fx (by omega)
  rcases bit_of p d with ⟨e0, e1⟩ | ⟨e0, e1⟩
  · rw [e0] at hb
    rw [e1]
    simp only [Bool.false_eq_true, ↓reduceIte, Int.natCast_zero, Int.natCast_one] at hb ⊢
    have H := Lib.hid (And.intro hb hj1)
    clear hb hj1 hj2 h3 h4 h5 e0 e1 hp hd hx hk hB hn
    go_enter Tryz.func228, Tryz.ntmps228
    go_wp2_with fail
    refine H.out.1.mono ?_
    rintro e w' ⟨rfl, rfl⟩
    go_wp2_with fail
    refine H.out.2.mono ?_
    rintro e w1 ⟨u, rfl, hu, hf⟩
    have HU := Lib.hid (And.intro hu hf)
    clear hu hf
    go_wp2_with fail
    go_ret
    exact ⟨_, rfl, HU.out.1, HU.out.2⟩
  · rw [e0] at hb
    rw [e1]
    simp only [Bool.false_eq_true, ↓reduceIte, Int.natCast_zero, Int.natCast_one] at hb ⊢
    have H := Lib.hid (And.intro hb hj2)
    clear hb hj1 hj2 h3 h4 h5 e0 e1 hp hd hx hk hB hn
    go_enter Tryz.func228, Tryz.ntmps228
    go_wp2_with fail
    refine H.out.1.mono ?_
    rintro e w' ⟨rfl, rfl⟩
    go_wp2_with fail
    refine H.out.2.mono ?_
    rintro e w1 ⟨u, rfl, hu, hf⟩
    have HU := Lib.hid (And.intro hu hf)
    clear hu hf
    go_wp2_with fail
    go_ret
    exact ⟨_, rfl, HU.out.1, HU.out.2⟩

set_option maxHeartbeats 1000000 in
set_option maxRecDepth 100000 in
theorem halves_not {B : Nat → Prop} {w : World} {v : Value} {t : Tr} (h : NodeAt B w v t) (ht : t.isNil = true ∨ t.single = true) :
    Calls Tryz.prog 129 #[v] w fun e w' => e = .returned (.tuple #[.pointer none, .pointer none, .bool false]) ∧ w' = w := by
  have hs := single_ok h
  rcases ht with ht | ht
  · obtain rfl := h.nil_iff.2 ht
    clear hs h ht
    go_enter Tryz.func129, Tryz.ntmps129
    go_wp2_with fail
    go_ret3
    exact ⟨rfl, rfl⟩
  · rw [ht] at hs
    obtain ⟨b, rfl⟩ := h.ptr (by cases t <;> first | rfl | cases ht)
    have H := Lib.hid hs
    clear hs h ht
    go_enter Tryz.func129, Tryz.ntmps129
    go_wp2_with fail
    refine H.out.mono ?_
    rintro e w' ⟨rfl, rfl⟩
    go_wp2_with fail
    go_ret3
    exact ⟨rfl, rfl⟩
theorem halves_node {B : Nat → Prop} {w : World} {v : Value} {l r : Tr} (h : NodeAt B w v (.node l r)) :
    Calls Tryz.prog 129 #[v] w fun e w' => (∃ vl vr, e = .returned (.tuple #[vl, vr, .bool true]) ∧ NodeAt B w vl l ∧ NodeAt B w vr r) ∧ Fr No w w' := by
  have hs := single_ok h
  rw [show (Tr.node l r).single = false from rfl] at hs
  obtain ⟨b, vl, vr, rfl, _, h3, h4, h5⟩ := h
  have c0 := blk_cell h3 0
  have c1 := blk_cell h3 1
  simp at c0 c1
  have H := Lib.hid (And.intro hs (And.intro h4 h5))
  clear hs h3 h4 h5
  go_enter Tryz.func129, Tryz.ntmps129
  go_wp2_with fail
  refine H.out.1.mono ?_
  rintro e w' ⟨rfl, rfl⟩
  go_wp2_with fail
  go_quiet (fail)
  go_wp2_with fail
  go_ret3
  exact ⟨⟨_, _, rfl, H.out.2.1, H.out.2.2⟩, (Fr.refl No _).drewN _⟩
end Go.Proofs.YtlmhphejgahfbaaGreatDoor
/- The program's tree: Leaf, Get, apart, put, del. -/
set_option linter.unusedVariables false
set_option linter.unusedSimpArgs false
namespace Go.Proofs.YtlmhphejgahfbaaGreatDoor
open Go.RowKit

/-! ### Plain -/
def Tr.dp : Tr → Nat
  | .nil => 0
  | .leaf _ _ => 0
  | .node l r => max l.dp r.dp + 1
/-- Each key stands where its bits lead. -/
def Tr.Placed (h : ByteArray → Nat → Bool) : Tr → Nat → Prop
  | .nil, _ => True
  | .leaf _ _, _ => True
  | .node l r, d => (∀ k ∈ l.keys, h k d = false) ∧ (∀ k ∈ r.keys, h k d = true) ∧ l.Placed h (d + 1) ∧ r.Placed h (d + 1)
theorem apart_full (h : ByteArray → Nat → Bool) (n : Nat) (a b : Itm) (d : Nat) : (apart h n a b d).Full ∧ (apart h n a b d).len = 2 := by
  have j : ∀ x y : Itm, (Tr.join (.leaf x.1 x.2) (.leaf y.1 y.2)).Full ∧ (Tr.join (.leaf x.1 x.2) (.leaf y.1 y.2)).len = 2 := fun x y =>
    ⟨Tr.Full.join trivial trivial, by rw [Tr.join_len (.leaf x.1 x.2) (.leaf y.1 y.2) trivial trivial]; rfl⟩
  induction n generalizing d with
  | zero =>
    unfold apart
    split <;> exact j _ _
  | succ n ih =>
    obtain ⟨i1, i2⟩ := ih (d + 1)
    unfold apart
    split
    · split
      · exact ⟨Tr.Full.join trivial i1, by rw [Tr.join_len .nil _ trivial i1, i2]; rfl⟩
      · exact ⟨Tr.Full.join i1 trivial, by rw [Tr.join_len _ .nil i1 trivial, i2]; rfl⟩
    · split <;> exact j _ _
theorem put_full (h : ByteArray → Nat → Bool) (s : ByteArray → ByteArray → Bool) {t : Tr} (f : t.Full) (x : Itm) (d : Nat) : (t.put h s x d).Full ∧ (t.put h s x d).len ≤ t.len + 1 := by
  induction t generalizing d with
  | nil => exact ⟨trivial, Nat.le_refl _⟩
  | leaf k r =>
    unfold Tr.put
    split
    · exact ⟨trivial, by show 1 ≤ 1 + 1; omega⟩
    · obtain ⟨i1, i2⟩ := apart_full h (255 - d) (k, r) x d
      exact ⟨i1, by rw [i2]; exact Nat.le_refl 2⟩
  | node l r ihl ihr =>
    unfold Tr.put
    split
    · obtain ⟨i1, i2⟩ := ihr f.2.1 (d + 1)
      exact ⟨Tr.Full.join f.1 i1, by rw [Tr.join_len _ _ f.1 i1]; show _ ≤ l.len + r.len + 1; omega⟩
    · obtain ⟨i1, i2⟩ := ihl f.1 (d + 1)
      exact ⟨Tr.Full.join i1 f.2.1, by rw [Tr.join_len _ _ i1 f.2.1]; show _ ≤ l.len + r.len + 1; omega⟩
theorem del_full (h : ByteArray → Nat → Bool) {t : Tr} (f : t.Full) (k : ByteArray) (d : Nat) : (t.del h k d).Full ∧ (t.del h k d).len ≤ t.len := by
  induction t generalizing d with
  | nil => exact ⟨trivial, Nat.le_refl _⟩
  | leaf k' r =>
    unfold Tr.del
    split
    · exact ⟨trivial, Nat.zero_le _⟩
    · exact ⟨trivial, Nat.le_refl _⟩
  | node l r ihl ihr =>
    unfold Tr.del
    split
    · obtain ⟨i1, i2⟩ := ihr f.2.1 (d + 1)
      exact ⟨Tr.Full.join f.1 i1, by rw [Tr.join_len _ _ f.1 i1]; show _ ≤ l.len + r.len; omega⟩
    · obtain ⟨i1, i2⟩ := ihl f.1 (d + 1)
      exact ⟨Tr.Full.join i1 f.2.1, by rw [Tr.join_len _ _ i1 f.2.1]; show _ ≤ l.len + r.len; omega⟩

/-! ### Leaf -/
set_option maxHeartbeats 1000000 in
set_option maxRecDepth 100000 in
theorem leafm_not {B : Nat → Prop} {w : World} {v : Value} {t : Tr} (h : NodeAt B w v t) (ht : t.single = false) :
    Calls Tryz.prog 132 #[v] w fun e w' => e = .returned (.tuple #[.string ⟨#[]⟩, .slice none 0 0, .bool false]) ∧ w' = w := by
  have hs := single_ok h
  rw [ht] at hs
  have H := Lib.hid hs
  clear hs h ht
  go_enter Tryz.func132, Tryz.ntmps132
  go_wp2_with fail
  refine H.out.mono ?_
  rintro e w' ⟨rfl, rfl⟩
  go_wp2_with fail
  go_ret3
  exact ⟨rfl, rfl⟩
set_option maxHeartbeats 2000000 in
set_option maxRecDepth 100000 in
theorem leafm_ok {B : Nat → Prop} {w : World} {v : Value} {k : ByteArray} {r : Bs} (h : NodeAt B w v (.leaf k r)) (hr : r.length ≤ 100000) :
    Calls Tryz.prog 132 #[v] w fun e w' => ∃ A c, e = .returned (.tuple #[.string k, .slice A r.length c, .bool true]) ∧ Ow Ty.u8 5 w' (fun i => w.heap.size ≤ i) (.slice A r.length c) r ∧ Fr No w w' := by
  have hs := single_ok h
  rw [show (Tr.leaf k r).single = true from rfl] at hs
  obtain ⟨b, A, c, rfl, _, h3, h4⟩ := h
  have c3 := blk_cell h3 3
  have c4 := blk_cell h3 4
  simp at c3 c4
  have H := Lib.hid (And.intro hs (And.intro h3 (And.intro h4 hr)))
  have HC := Lib.hid fun (w1 : World) (f : Fr No w w1) => clone_ok (c := c) (h4.fr0 f) rfl (by omega)
  clear hs h3 h4 hr
  have g0 := Fr.refl No w
  go_enter Tryz.func132, Tryz.ntmps132
  go_wp2_with fail
  refine H.out.1.mono ?_
  rintro e w' ⟨rfl, rfl⟩
  go_wp2_with fail
  go_region_held3 (fun w' => w'.cell? ⟨b, 3, none⟩ = some (.string k) ∧ w'.cell? ⟨b, 4, none⟩ = some (.slice A r.length c))
    (first
      | exact ⟨c3, c4⟩
      | exact ⟨q3, q4⟩)
    ((go_at_call 100; refine (HC.out _ (by repeat (first | assumption | exact Fr.refl _ _ | apply Fr.drew | apply Fr.drewN))).mono ?_; rintro e1 w1 ⟨A1, c1, rfl, hO, hf⟩
      have g1 : Fr No w' w1 := Fr.trans (by repeat (first | assumption | exact Fr.refl _ _ | apply Fr.drew | apply Fr.drewN)) (hf.mono fun _ _ f => f.elim)
      have q3 := g1.cell c3 (fun f => f)
      have q4 := g1.cell c4 (fun f => f)
      have HO := Lib.hid hO
      clear hO hf))
  all_goals
    go_wp2_with fail
    go_ret3
    exact ⟨A1, c1, rfl, HO.out, g1⟩
end Go.Proofs.YtlmhphejgahfbaaGreatDoor
