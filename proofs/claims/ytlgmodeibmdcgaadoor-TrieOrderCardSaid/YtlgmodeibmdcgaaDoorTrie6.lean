/- The program's tree: Put, del, Del. -/
import Derived.Test.YtlgmodeibmdcgaaDoorTrie5
set_option linter.unusedVariables false
set_option linter.unusedSimpArgs false
namespace Go.Proofs.YtlgmodeibmdcgaaDoor
open Go.RowKit

set_option maxHeartbeats 2000000 in
set_option maxRecDepth 100000 in
theorem Put_ok {B : Nat} {t : Tr} {w : World} {F : Nat → Prop} {v : Value} {A : Option Addr} {c : Nat} {row : Bs} (key : ByteArray) (h : NodeAt B w v t) (hrow : Rd Ty.u8 w F A row) (hky : key.size ≤ 1000) (hr : row.length ≤ 100000) (hk : KAt w) (hB : B ≤ w.heap.size) (hf : t.Full) (hl : t.len ≤ 400000) (hdp : t.dp ≤ 256)
    (hpl : t.Placed hbit 0) (hsep : ∀ k ∈ t.keys, sumK k ≠ sumK key → ∃ i, i < 256 ∧ hbit k i ≠ hbit key i) :
    Calls Tryd.prog 13 #[v, .string key, .slice A row.length c] w fun e w' => ∃ u, e = .returned u ∧ NodeAt B w' u (t.put hbit sameK (key, row) 0) ∧ Fr No w w' := by
  have HL := Lib.hid (leaf_ok (c := c) key hrow hky hr hk hB)
  have HP := Lib.hid fun (w1 : World) (f : Fr No w w1) (bx : Nat) (hx : NodeAt B w1 (.pointer (some ⟨bx, 0, none⟩)) (.leaf key row)) => put_ok' (x := (key, row)) (d := 0) (h.fr0 f) hx (hk.fr0 f) (Nat.le_trans hB f.size) hf hl (by omega) hpl (fun k hk hne => by obtain ⟨i, h1, h2⟩ := hsep k hk hne; exact ⟨i, by omega, h1, h2⟩)
  clear h hrow hky hr hk hB hf hl hdp hpl hsep
  go_enter Tryd.func13, Tryd.ntmps13
  go_wp2_with fail
  refine HL.out.mono ?_
  rintro e w1 ⟨u, rfl, hu, hf⟩
  obtain ⟨b, rfl⟩ := hu.ptr rfl
  have HU := Lib.hid (And.intro hu hf)
  clear hu hf
  go_wp2_with fail
  refine (HP.out _ HU.out.2 _ HU.out.1).mono ?_
  rintro e w2 ⟨u2, rfl, hu2, hf2⟩
  have HV := Lib.hid (And.intro hu2 (HU.out.2.trans (hf2.mono fun _ _ f => f.elim)))
  clear hu2 hf2
  go_wp2_with fail
  go_ret
  exact ⟨_, rfl, HV.out.1, HV.out.2⟩

set_option maxHeartbeats 2000000 in
set_option maxRecDepth 100000 in
theorem del_nil {w : World} (key p : ByteArray) (d : Int) : Calls Tryd.prog 38 #[.pointer none, .string key, .string p, .int .i64 d] w fun e w' => e = .returned (.pointer none) ∧ w' = w := by
  go_enter Tryd.func38, Tryd.ntmps38
  go_wp2_with fail
  go_ret
  exact ⟨rfl, rfl⟩
set_option maxHeartbeats 2000000 in
set_option maxRecDepth 100000 in
theorem del_leaf {w : World} {b : Nat} {k key p : ByteArray} (d : Int) (hc : w.cell? ⟨b, 3, none⟩ = some (.string k))
    (hs : Calls Tryd.prog 41 #[.pointer (some ⟨b, 0, none⟩)] w fun e w' => e = .returned (.bool true) ∧ w' = w) :
    Calls Tryd.prog 38 #[.pointer (some ⟨b, 0, none⟩), .string key, .string p, .int .i64 d] w fun e w' => e = .returned (if k = key then .pointer none else .pointer (some ⟨b, 0, none⟩)) ∧ w' = w := by
  have HS := Lib.hid hs
  clear hs
  by_cases he : k = key
  · subst he
    rw [if_pos rfl]
    go_enter Tryd.func38, Tryd.ntmps38
    go_wp2_with fail
    refine HS.out.mono ?_
    rintro e w' ⟨rfl, rfl⟩
    go_wp2_with fail
    go_ret
    exact ⟨rfl, rfl⟩
  · rw [if_neg he]
    have hne : (k.toList == key.toList) = false := by rw [beq_toList]; exact decide_eq_false he
    clear he
    go_enter Tryd.func38, Tryd.ntmps38
    go_wp2_with fail
    refine HS.out.mono ?_
    rintro e w' ⟨rfl, rfl⟩
    go_wp2_with fail
    refine HS.out.mono ?_
    rintro e w' ⟨rfl, rfl⟩
    go_wp2_with fail
    go_ret
    exact ⟨rfl, rfl⟩
set_option maxHeartbeats 2000000 in
set_option maxRecDepth 100000 in
theorem del_node {B : Nat} {w : World} {b : Nat} {key p : ByteArray} {d : Int} {C X R : Tr} (hd0 : 0 ≤ d) (hd1 : d < 256)
    (hs : Calls Tryd.prog 41 #[.pointer (some ⟨b, 0, none⟩)] w fun e w' => e = .returned (.bool false) ∧ w' = w)
    (hh : Calls Tryd.prog 48 #[.pointer (some ⟨b, 0, none⟩), .string p, .int .i64 d] w fun e w' => (∃ u, e = .returned u ∧ NodeAt B w u C) ∧ w' = w)
    (hi : ∀ u, NodeAt B w u C → Calls Tryd.prog 38 #[u, .string key, .string p, .int .i64 (d + 1)] w fun e w' => ∃ u', e = .returned u' ∧ NodeAt B w' u' X ∧ Fr No w w')
    (hw : ∀ w1 ux, Fr No w w1 → NodeAt B w1 ux X → Calls Tryd.prog 53 #[.pointer (some ⟨b, 0, none⟩), .string p, .int .i64 d, ux] w1 fun e w' => ∃ u, e = .returned u ∧ NodeAt B w' u R ∧ Fr No w1 w') :
    Calls Tryd.prog 38 #[.pointer (some ⟨b, 0, none⟩), .string key, .string p, .int .i64 d] w fun e w' => ∃ u, e = .returned u ∧ NodeAt B w' u R ∧ Fr No w w' := by
  have HS := Lib.hid (And.intro hs (And.intro hh (And.intro hi hw)))
  clear hs hh hi hw
  go_enter Tryd.func38, Tryd.ntmps38
  go_wp2_with fail
  refine HS.out.1.mono ?_
  rintro e w' ⟨rfl, rfl⟩
  go_wp2_with fail
  refine HS.out.1.mono ?_
  rintro e w' ⟨rfl, rfl⟩
  go_wp2_with fail
  refine HS.out.2.1.mono ?_
  rintro e w' ⟨⟨u, rfl, hu⟩, rfl⟩
  have HU := Lib.hid hu
  clear hu
  go_wp2_with fail
  refine (HS.out.2.2.1 _ HU.out).mono ?_
  rintro e w1 ⟨u1, rfl, hu1, hf1⟩
  have HV := Lib.hid (And.intro hu1 hf1)
  clear hu1 hf1
  go_wp2_with fail
  refine (HS.out.2.2.2 _ _ HV.out.2 HV.out.1).mono ?_
  rintro e w2 ⟨u2, rfl, hu2, hf2⟩
  have HX := Lib.hid (And.intro hu2 (HV.out.2.trans (hf2.mono fun _ _ f => f.elim)))
  clear hu2 hf2
  go_wp2_with fail
  go_ret
  exact ⟨_, rfl, HX.out.1, HX.out.2⟩
theorem del_ok {B : Nat} {key : ByteArray} {t : Tr} {w : World} {v : Value} {d : Nat} (h : NodeAt B w v t) (hk : KAt w) (hB : B ≤ w.heap.size) (hf : t.Full) (hl : t.len ≤ 400000) (hdp : t.dp + d ≤ 256) :
    Calls Tryd.prog 38 #[v, .string key, .string (sumK key), .int .i64 (d : Int)] w fun e w' => ∃ u, e = .returned u ∧ NodeAt B w' u (t.del hbit key d) ∧ Fr No w w' := by
  induction t generalizing v d w with
  | nil =>
    obtain rfl : v = _ := h
    refine (del_nil _ _ _).mono ?_
    rintro e w' ⟨rfl, rfl⟩
    exact ⟨_, rfl, rfl, Fr.refl _ _⟩
  | leaf k r =>
    have hn := h
    obtain ⟨b, rfl⟩ := h.ptr rfl
    refine (del_leaf (key := key) (p := sumK key) (d : Int) (leaf_key hn) (single_ok hn)).mono ?_
    rintro e w' ⟨rfl, rfl⟩
    unfold Tr.del
    by_cases he : k = key
    · rw [if_pos he, if_pos he]; exact ⟨_, rfl, rfl, Fr.refl _ _⟩
    · rw [if_neg he, if_neg he]; exact ⟨_, rfl, hn, Fr.refl _ _⟩
  | node l r ihl ihr =>
    have hn := h
    obtain ⟨f1, f2, f3⟩ := hf
    simp only [Tr.dp] at hdp
    have hd : d < 256 := by omega
    obtain ⟨b, rfl⟩ := h.ptr rfl
    have hlen : l.len + r.len ≤ 400000 := hl
    have hsx : (sumK key).size = 32 := sha_size _
    have hbx : hbit key d = bitB (sumK key) d := rfl
    unfold Tr.del
    cases hc : hbit key d with
    | false =>
      rw [if_neg (by decide)]
      obtain ⟨i1, i2⟩ := del_full hbit f1 key (d + 1)
      refine del_node (C := l) (X := l.del hbit key (d + 1)) (by omega) (by omega) (single_ok hn) ?_ (fun u hu => ?_) (fun w1 ux f hux => ?_)
      · have := half_base hn (Fr.refl No w) hsx hd
        rw [← hbx, hc] at this
        exact this
      · exact ihl (d := d + 1) hu hk hB f1 (by omega) (by omega)
      · have := with_ok (d := d) (hn.fr0 f) hux hsx hd (hk.fr0 f) (Nat.le_trans hB f.size) f1 f2 i1 (by omega)
        rw [← hbx, hc] at this
        exact this
    | true =>
      rw [if_pos rfl]
      obtain ⟨i1, i2⟩ := del_full hbit f2 key (d + 1)
      refine del_node (C := r) (X := r.del hbit key (d + 1)) (by omega) (by omega) (single_ok hn) ?_ (fun u hu => ?_) (fun w1 ux f hux => ?_)
      · have := half_base hn (Fr.refl No w) hsx hd
        rw [← hbx, hc] at this
        exact this
      · exact ihr (d := d + 1) hu hk hB f2 (by omega) (by omega)
      · have := with_ok (d := d) (hn.fr0 f) hux hsx hd (hk.fr0 f) (Nat.le_trans hB f.size) f1 f2 i1 (by omega)
        rw [← hbx, hc] at this
        exact this
set_option maxHeartbeats 2000000 in
set_option maxRecDepth 100000 in
theorem Del_ok {B : Nat} {t : Tr} {w : World} {v : Value} (key : ByteArray) (h : NodeAt B w v t) (hky : key.size ≤ 1000) (hk : KAt w) (hB : B ≤ w.heap.size) (hf : t.Full) (hl : t.len ≤ 400000) (hdp : t.dp ≤ 256) :
    Calls Tryd.prog 14 #[v, .string key] w fun e w' => ∃ u, e = .returned u ∧ NodeAt B w' u (t.del hbit key 0) ∧ Fr No w w' := by
  have kc := run_txt
  obtain ⟨W, hW⟩ : ∃ W, W = txtW w key := ⟨_, rfl⟩
  have hfW : Fr No w W := by rw [hW]; exact txt_fr _ _
  have hs := sum_ok (w := W) (c := txtC w key) (txt_rd' (w := w) (s := key) (by rw [← hW]; exact Fr.refl No W) (by omega)) (hk.fr0 hfW) (by rw [keyB_len]; omega)
  rw [keyB_len, hW] at hs
  rw [show sha (keyB key) = sumK key from rfl] at hs
  have H := Lib.hid (And.intro hs (hW ▸ hfW))
  have HD := Lib.hid fun (w1 : World) (f : Fr No w w1) => del_ok (key := key) (d := 0) (h.fr0 f) (hk.fr0 f) (Nat.le_trans hB f.size) hf hl (by omega)
  obtain ⟨p, hp⟩ : ∃ p, sumK key = p := ⟨_, rfl⟩
  rw [hp] at H HD
  clear hs hfW h hk hB hf hl hdp hky hW hp
  go_enter Tryd.func14, Tryd.ntmps14
  go_wp2_with fail
  refine H.out.1.mono ?_
  rintro e w1 ⟨rfl, hf⟩
  have HF := Lib.hid (H.out.2.trans (hf.mono fun _ _ f => f.elim))
  clear hf
  go_wp2_with fail
  refine (HD.out _ HF.out).mono ?_
  rintro e w2 ⟨u, rfl, hu, hf2⟩
  have HU := Lib.hid (And.intro hu (HF.out.trans (hf2.mono fun _ _ f => f.elim)))
  clear hu hf2
  go_wp2_with fail
  go_ret
  exact ⟨_, rfl, HU.out.1, HU.out.2⟩
end Go.Proofs.YtlgmodeibmdcgaaDoor
