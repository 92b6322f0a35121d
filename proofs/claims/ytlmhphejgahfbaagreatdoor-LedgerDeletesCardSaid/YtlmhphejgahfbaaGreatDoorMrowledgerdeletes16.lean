/- Texts of this claim, one behind the other: Trie6, Bits, TrOk, SpecL. -/
import Derived.Test.YtlmhphejgahfbaaGreatDoorMrowledgerdeletes15
import Derived.Test.YtlmhphejgahfbaaGreatDoorMrowledgerdeletes14
import Derived.Test.YtlmhphejgahfbaaGreatDoorMrowledgerdeletes12
import Derived.Test.YtlmhphejgahfbaaGreatDoorMrowledgerdeletes7
import Derived.Test.YtlmhphejgahfbaaGreatDoorMrowledgerdeletes6
/- The program's tree: Put, del, Del. -/
set_option linter.unusedVariables false
set_option linter.unusedSimpArgs false
namespace Go.Proofs.YtlmhphejgahfbaaGreatDoor
open Go.RowKit

set_option maxHeartbeats 2000000 in
set_option maxRecDepth 100000 in
theorem Put_ok {B : Nat → Prop} {t : Tr} {w : World} {F : Nat → Prop} {v : Value} {A : Option Addr} {c : Nat} {row : Bs} (key : ByteArray) (h : NodeAt B w v t) (hrow : Rd Ty.u8 w F A row) (hky : key.size ≤ 1000) (hr : row.length ≤ 100000) (hk : KAt w) (hB : ∀ i, w.heap.size ≤ i → B i) (hf : t.Full) (hl : t.len ≤ 400000) (hdp : t.dp ≤ 256)
    (hpl : t.Placed hbit 0) (hsep : ∀ k ∈ t.keys, sumK k ≠ sumK key → ∃ i, i < 256 ∧ hbit k i ≠ hbit key i) :
    Calls Tryz.prog 147 #[v, .string key, .slice A row.length c] w fun e w' => ∃ u, e = .returned u ∧ NodeAt B w' u (t.put hbit sameK (key, row) 0) ∧ Fr No w w' := by
  have HL := Lib.hid (leaf_ok (c := c) key hrow hky hr hk hB)
  have HP := Lib.hid fun (w1 : World) (f : Fr No w w1) (bx : Nat) (hx : NodeAt B w1 (.pointer (some ⟨bx, 0, none⟩)) (.leaf key row)) => put_ok' (x := (key, row)) (d := 0) (h.fr0 f) hx (hk.fr0 f) (fun i hi => hB i (Nat.le_trans f.size hi)) hf hl (by omega) hpl (fun k hk hne => by obtain ⟨i, h1, h2⟩ := hsep k hk hne; exact ⟨i, by omega, h1, h2⟩)
  clear h hrow hky hr hk hB hf hl hdp hpl hsep
  go_enter Tryz.func147, Tryz.ntmps147
  go_wp2_with fail
  refine HL.out.mono ?_
  rintro e w1 ⟨u, rfl, hu, hf⟩
  obtain ⟨b, rfl⟩ := hu.ptr rfl
  have HU := Lib.hid (And.intro hu hf)
  clear hu hf
  go_wp2_with fail
  refine (HP.out _ HU.out.2 _ HU.out.1).mono ?_
  rintro e w2 ⟨u2, rfl, hu2, hf2⟩
  have HV := Lib.hid (And.intro hu2 (HU.out.2.trans (hf2.mono fun _ _ f => f.elim)))
  clear hu2 hf2
  go_wp2_with fail
  go_ret
  exact ⟨_, rfl, HV.out.1, HV.out.2⟩

set_option maxHeartbeats 2000000 in
set_option maxRecDepth 100000 in
theorem del_nil {w : World} (key p : ByteArray) (d : Int) : Calls Tryz.prog 196 #[.pointer none, .string key, .string p, .int .i64 d] w fun e w' => e = .returned (.pointer none) ∧ w' = w := by
  go_enter Tryz.func196, Tryz.ntmps196
  go_wp2_with fail
  go_ret
  exact ⟨rfl, rfl⟩
set_option maxHeartbeats 2000000 in
set_option maxRecDepth 100000 in
theorem del_leaf {w : World} {b : Nat} {k key p : ByteArray} (d : Int) (hc : w.cell? ⟨b, 3, none⟩ = some (.string k))
    (hs : Calls Tryz.prog 125 #[.pointer (some ⟨b, 0, none⟩)] w fun e w' => e = .returned (.bool true) ∧ w' = w) :
    Calls Tryz.prog 196 #[.pointer (some ⟨b, 0, none⟩), .string key, .string p, .int .i64 d] w fun e w' => e = .returned (if k = key then .pointer none else .pointer (some ⟨b, 0, none⟩)) ∧ w' = w := by
  have HS := Lib.hid hs
  clear hs
  by_cases he : k = key
  · subst he
    rw [if_pos rfl]
    go_enter Tryz.func196, Tryz.ntmps196
    go_wp2_with fail
    refine HS.out.mono ?_
    rintro e w' ⟨rfl, rfl⟩
    go_wp2_with fail
    go_ret
    exact ⟨rfl, rfl⟩
  · rw [if_neg he]
    have hne : (k.toList == key.toList) = false := by rw [beq_toList]; exact decide_eq_false he
    clear he
    go_enter Tryz.func196, Tryz.ntmps196
    go_wp2_with fail
    refine HS.out.mono ?_
    rintro e w' ⟨rfl, rfl⟩
    go_wp2_with fail
    refine HS.out.mono ?_
    rintro e w' ⟨rfl, rfl⟩
    go_wp2_with fail
    go_ret
    exact ⟨rfl, rfl⟩
set_option maxHeartbeats 2000000 in
set_option maxRecDepth 100000 in
theorem del_node {B : Nat → Prop} {w : World} {b : Nat} {key p : ByteArray} {d : Int} {C X R : Tr} (hd0 : 0 ≤ d) (hd1 : d < 256)
    (hs : Calls Tryz.prog 125 #[.pointer (some ⟨b, 0, none⟩)] w fun e w' => e = .returned (.bool false) ∧ w' = w)
    (hh : Calls Tryz.prog 126 #[.pointer (some ⟨b, 0, none⟩), .string p, .int .i64 d] w fun e w' => (∃ u, e = .returned u ∧ NodeAt B w u C) ∧ w' = w)
    (hi : ∀ u, NodeAt B w u C → Calls Tryz.prog 196 #[u, .string key, .string p, .int .i64 (d + 1)] w fun e w' => ∃ u', e = .returned u' ∧ NodeAt B w' u' X ∧ Fr No w w')
    (hw : ∀ w1 ux, Fr No w w1 → NodeAt B w1 ux X → Calls Tryz.prog 228 #[.pointer (some ⟨b, 0, none⟩), .string p, .int .i64 d, ux] w1 fun e w' => ∃ u, e = .returned u ∧ NodeAt B w' u R ∧ Fr No w1 w') :
    Calls Tryz.prog 196 #[.pointer (some ⟨b, 0, none⟩), .string key, .string p, .int .i64 d] w fun e w' => ∃ u, e = .returned u ∧ NodeAt B w' u R ∧ Fr No w w' := by
  have HS := Lib.hid (And.intro hs (And.intro hh (And.intro hi hw)))
  clear hs hh hi hw
  go_enter Tryz.func196, Tryz.ntmps196
  go_wp2_with fail
  refine HS.out.1.mono ?_
  rintro e w' ⟨rfl, rfl⟩
  go_wp2_with fail
  refine HS.out.1.mono ?_
  rintro e w' ⟨rfl, rfl⟩
  go_wp2_with fail
  refine HS.out.2.1.mono ?_
  rintro e w' ⟨⟨u, rfl, hu⟩, rfl⟩
  have HU := Lib.hid hu
  clear hu
  go_wp2_with fail
  refine (HS.out.2.2.1 _ HU.out).mono ?_
  rintro e w1 ⟨u1, rfl, hu1, hf1⟩
  have HV := Lib.hid (And.intro hu1 hf1)
  clear hu1 hf1
  go_wp2_with fail
  refine (HS.out.2.2.2 _ _ HV.out.2 HV.out.1).mono ?_
  rintro e w2 ⟨u2, rfl, hu2, hf2⟩
  have HX := Lib.hid (And.intro hu2 (HV.out.2.trans (hf2.mono fun _ _ f => f.elim)))
  clear hu2 hf2
  go_wp2_with fail
  go_ret
  exact ⟨_, rfl, HX.out.1, HX.out.2⟩
theorem del_ok {B : Nat → Prop} {key : ByteArray} {t : Tr} {w : World} {v : Value} {d : Nat} (h : NodeAt B w v t) (hk : KAt w) (hB : ∀ i, w.heap.size ≤ i → B i) (hf : t.Full) (hl : t.len ≤ 400000) (hdp : t.dp + d ≤ 256) :
    Calls Tryz.prog 196 #[v, .string key, .string (sumK key), .int .i64 (d : Int)] w fun e w' => ∃ u, e = .returned u ∧ NodeAt B w' u (t.del hbit key d) ∧ Fr No w w' := by
  induction t generalizing v d w with
  | nil =>
    obtain rfl : v = _ := h
    refine (del_nil _ _ _).mono ?_
    rintro e w' ⟨rfl, rfl⟩
    exact ⟨_, rfl, rfl, Fr.refl _ _⟩
  | leaf k r =>
    have hn := h
    obtain ⟨b, rfl⟩ := h.ptr rfl
    refine (del_leaf (key := key) (p := sumK key) (d : Int) (leaf_key hn) (single_ok hn)).mono ?_
    rintro e w' ⟨rfl, rfl⟩
    unfold Tr.del
    by_cases he : k = key
    · rw [if_pos he, if_pos he]; exact ⟨_, rfl, rfl, Fr.refl _ _⟩
    · rw [if_neg he, if_neg he]; exact ⟨_, rfl, hn, Fr.refl _ _⟩
  | node l r ihl ihr =>
    have hn := h
    obtain ⟨f1, f2, f3⟩ := hf
    simp only [Tr.dp] at hdp
    have hd : d < 256 := by omega
    obtain ⟨b, rfl⟩ := h.ptr rfl
    have hlen : l.len + r.len ≤ 400000 := hl
    have hsx : (sumK key).size = 32 := sha_size _
    have hbx : hbit key d = bitB (sumK key) d := rfl
    unfold Tr.del
    cases hc : hbit key d with
    | false =>
      rw [if_neg (by decide)]
      obtain ⟨i1, i2⟩ := del_full hbit f1 key (d + 1)
      refine del_node (C := l) (X := l.del hbit key (d + 1)) (by omega) (by omega) (single_ok hn) ?_ (fun u hu => ?_) (fun w1 ux f hux => ?_)
      · have := half_base hn (Fr.refl No w) hsx hd
        rw [← hbx, hc] at this
        exact this
      · exact ihl (d := d + 1) hu hk hB f1 (by omega) (by omega)
      · have := with_ok (d := d) (hn.fr0 f) hux hsx hd (hk.fr0 f) (fun i hi => hB i (Nat.le_trans f.size hi)) f1 f2 i1 (by omega)
        rw [← hbx, hc] at this
        exact this
    | true =>
      rw [if_pos rfl]
      obtain ⟨i1, i2⟩ := del_full hbit f2 key (d + 1)
      refine del_node (C := r) (X := r.del hbit key (d + 1)) (by omega) (by omega) (single_ok hn) ?_ (fun u hu => ?_) (fun w1 ux f hux => ?_)
      · have := half_base hn (Fr.refl No w) hsx hd
        rw [← hbx, hc] at this
        exact this
      · exact ihr (d := d + 1) hu hk hB f2 (by omega) (by omega)
      · have := with_ok (d := d) (hn.fr0 f) hux hsx hd (hk.fr0 f) (fun i hi => hB i (Nat.le_trans f.size hi)) f1 f2 i1 (by omega)
        rw [← hbx, hc] at this
        exact this
set_option maxHeartbeats 2000000 in
set_option maxRecDepth 100000 in
theorem Del_ok {B : Nat → Prop} {t : Tr} {w : World} {v : Value} (key : ByteArray) (h : NodeAt B w v t) (hky : key.size ≤ 1000) (hk : KAt w) (hB : ∀ i, w.heap.size ≤ i → B i) (hf : t.Full) (hl : t.len ≤ 400000) (hdp : t.dp ≤ 256) :
    Calls Tryz.prog 146 #[v, .string key] w fun e w' => ∃ u, e = .returned u ∧ NodeAt B w' u (t.del hbit key 0) ∧ Fr No w w' := by
  have kc := run_txt
  obtain ⟨W, hW⟩ : ∃ W, W = txtW w key := ⟨_, rfl⟩
  have hfW : Fr No w W := by rw [hW]; exact txt_fr _ _
  have hs := sum_ok (w := W) (c := txtC w key) (txt_rd' (w := w) (s := key) (by rw [← hW]; exact Fr.refl No W) (by omega)) (hk.fr0 hfW) (by rw [keyB_len]; omega)
  rw [keyB_len, hW] at hs
  rw [show sha (keyB key) = sumK key from rfl] at hs
  have H := Lib.hid (And.intro hs (hW ▸ hfW))
  have HD := Lib.hid fun (w1 : World) (f : Fr No w w1) => del_ok (key := key) (d := 0) (h.fr0 f) (hk.fr0 f) (fun i hi => hB i (Nat.le_trans f.size hi)) hf hl (by omega)
  obtain ⟨p, hp⟩ : ∃ p, sumK key = p := ⟨_, rfl⟩
  rw [hp] at H HD
  clear hs hfW h hk hB hf hl hdp hky hW hp
  go_enter Tryz.func146, Tryz.ntmps146
  go_wp2_with fail
  refine H.out.1.mono ?_
  rintro e w1 ⟨rfl, hf⟩
  have HF := Lib.hid (H.out.2.trans (hf.mono fun _ _ f => f.elim))
  clear hf
  go_wp2_with fail
  refine (HD.out _ HF.out).mono ?_
  rintro e w2 ⟨u, rfl, hu, hf2⟩
  have HU := Lib.hid (And.intro hu (HF.out.trans (hf2.mono fun _ _ f => f.elim)))
  clear hu hf2
  go_wp2_with fail
  go_ret
  exact ⟨_, rfl, HU.out.1, HU.out.2⟩
end Go.Proofs.YtlmhphejgahfbaaGreatDoor
/- Bits tell bytes apart. -/
set_option linter.unusedVariables false
set_option linter.unusedSimpArgs false
namespace Go.Proofs.YtlmhphejgahfbaaGreatDoor
theorem byte_bits {x y : UInt8} (h : ∀ s, s < 8 → x.toNat / 2 ^ (7 - s) % 2 = y.toNat / 2 ^ (7 - s) % 2) : x = y := by
  have h0 := h 0 (by decide)
  have h1 := h 1 (by decide)
  have h2 := h 2 (by decide)
  have h3 := h 3 (by decide)
  have h4 := h 4 (by decide)
  have h5 := h 5 (by decide)
  have h6 := h 6 (by decide)
  have h7 := h 7 (by decide)
  simp only [Nat.reduceSub, Nat.reducePow, Nat.sub_zero, Nat.pow_zero, Nat.pow_one, Nat.div_one] at h0 h1 h2 h3 h4 h5 h6 h7
  have hx := x.toNat_lt
  have hy := y.toNat_lt
  apply UInt8.toNat_inj.1
  omega
theorem bits_apart {a b : ByteArray} (ha : a.size = 32) (hb : b.size = 32) (h : ∀ i, i < 256 → bitB a i = bitB b i) : a = b := by
  have hl : a.data.toList = b.data.toList := by
    apply List.ext_getElem
    · simp; exact ha.trans hb.symm
    · intro j h1 h2
      have hj : j < 32 := by simpa [ha] using h1
      apply byte_bits
      intro s hs
      have := h (8 * j + s) (by omega)
      have hn : bitN a (8 * j + s) = bitN b (8 * j + s) := by rw [bitN_eq, bitN_eq, this]
      unfold bitN at hn
      rw [show (8 * j + s) / 8 = j by omega, show (8 * j + s) % 8 = s by omega, List.getElem?_eq_getElem h1, List.getElem?_eq_getElem h2] at hn
      exact hn
  cases a; cases b
  simp at hl
  rw [hl]
end Go.Proofs.YtlmhphejgahfbaaGreatDoor
/- Trees that may be put to and deleted from: what Put and Del keep. -/
set_option linter.unusedVariables false
set_option linter.unusedSimpArgs false
namespace Go.Proofs.YtlmhphejgahfbaaGreatDoor

theorem keys_join (l r : Tr) {k : ByteArray} (h : k ∈ (Tr.join l r).keys) : k ∈ l.keys ∨ k ∈ r.keys := by
  unfold Tr.join at h
  split at h
  · exact .inr h
  · split at h
    · exact .inl h
    · split at h
      · cases h
      · exact List.mem_append.1 h
theorem join_dp (l r : Tr) : (Tr.join l r).dp ≤ max l.dp r.dp + 1 := by
  unfold Tr.join
  split
  · omega
  · split
    · omega
    · split
      · exact Nat.zero_le _
      · exact Nat.le_refl _
section
variable {h : ByteArray → Nat → Bool}
theorem single_placed {t : Tr} (hs : t.single = true) (d : Nat) : t.Placed h d := by
  cases t with
  | nil => trivial
  | leaf k r => trivial
  | node l r => cases hs
theorem join_placed {l r : Tr} {d : Nat} (hl : l.Placed h (d + 1)) (hr : r.Placed h (d + 1)) (kl : ∀ k ∈ l.keys, h k d = false) (kr : ∀ k ∈ r.keys, h k d = true) : (Tr.join l r).Placed h d := by
  unfold Tr.join
  split
  · rename_i e; exact single_placed (by simp at e; exact e.2) d
  · split
    · rename_i e; exact single_placed (by simp at e; exact e.2) d
    · split
      · trivial
      · exact ⟨kl, kr, hl, hr⟩
theorem apart_keys (n : Nat) (a b : Itm) (d : Nat) {k : ByteArray} (hk : k ∈ (apart h n a b d).keys) : k = a.1 ∨ k = b.1 := by
  induction n generalizing d with
  | zero =>
    unfold apart at hk
    split at hk
    · rcases keys_join _ _ hk with e | e <;> simp [Tr.keys] at e <;> simp [e]
    · rcases keys_join _ _ hk with e | e <;> simp [Tr.keys] at e <;> simp [e]
  | succ n ih =>
    unfold apart at hk
    split at hk
    · split at hk
      · rcases keys_join _ _ hk with e | e
        · cases e
        · exact ih _ e
      · rcases keys_join _ _ hk with e | e
        · exact ih _ e
        · cases e
    · split at hk
      · rcases keys_join _ _ hk with e | e <;> simp [Tr.keys] at e <;> simp [e]
      · rcases keys_join _ _ hk with e | e <;> simp [Tr.keys] at e <;> simp [e]
theorem apart_dp (n : Nat) (a b : Itm) (d : Nat) : (apart h n a b d).dp ≤ n + 1 := by
  induction n generalizing d with
  | zero =>
    unfold apart
    split
    · exact join_dp _ _
    · exact join_dp _ _
  | succ n ih =>
    unfold apart
    have hi := ih (d + 1)
    split
    · split
      · have := join_dp .nil (apart h n a b (d + 1)); simp only [Tr.dp] at this; omega
      · have := join_dp (apart h n a b (d + 1)) .nil; simp only [Tr.dp] at this; omega
    · split
      · have := join_dp (.leaf b.1 b.2) (.leaf a.1 a.2); simp only [Tr.dp] at this; omega
      · have := join_dp (.leaf a.1 a.2) (.leaf b.1 b.2); simp only [Tr.dp] at this; omega
theorem two_placed {a b : Itm} {d : Nat} (ha : h a.1 d = false) (hb : h b.1 d = true) : (Tr.join (.leaf a.1 a.2) (.leaf b.1 b.2)).Placed h d :=
  join_placed trivial trivial (fun k hk => by simp [Tr.keys] at hk; rw [hk]; exact ha) (fun k hk => by simp [Tr.keys] at hk; rw [hk]; exact hb)
theorem apart_placed (n : Nat) (a b : Itm) (d : Nat) (hi : ∃ i, d ≤ i ∧ i ≤ d + n ∧ h a.1 i ≠ h b.1 i) : (apart h n a b d).Placed h d := by
  induction n generalizing d with
  | zero =>
    obtain ⟨i, h1, h2, h3⟩ := hi
    obtain rfl : d = i := by omega
    unfold apart
    split
    · rename_i e; exact two_placed (by cases hq : h b.1 d with | false => rfl | true => exact absurd (e.trans hq.symm) h3) e
    · rename_i e; have e' : h a.1 d = false := by simpa using e
      exact two_placed e' (by cases hq : h b.1 d with | true => rfl | false => exact absurd (e'.trans hq.symm) h3)
  | succ n ih =>
    unfold apart
    by_cases e : h a.1 d = h b.1 d
    · rw [if_pos e]
      have hi' : ∃ i, d + 1 ≤ i ∧ i ≤ d + 1 + n ∧ h a.1 i ≠ h b.1 i := by
        obtain ⟨i, h1, h2, h3⟩ := hi
        refine ⟨i, ?_, by omega, h3⟩
        rcases Nat.lt_or_ge d i with hlt | hge
        · exact hlt
        · obtain rfl : i = d := by omega
          exact absurd e h3
      have hp := ih (d + 1) hi'
      split
      · rename_i ea
        exact join_placed trivial hp (fun k hk => by cases hk) (fun k hk => by rcases apart_keys n a b _ hk with q | q <;> rw [q]; exact ea; rw [← e]; exact ea)
      · rename_i ea
        have ea' : h a.1 d = false := by simpa using ea
        exact join_placed hp trivial (fun k hk => by rcases apart_keys n a b _ hk with q | q <;> rw [q]; exact ea'; rw [← e]; exact ea') (fun k hk => by cases hk)
    · rw [if_neg e]
      split
      · rename_i ea; exact two_placed (by cases hq : h b.1 d with | false => rfl | true => exact absurd (ea.trans hq.symm) e) ea
      · rename_i ea
        have ea' : h a.1 d = false := by simpa using ea
        exact two_placed ea' (by cases hq : h b.1 d with | true => rfl | false => exact absurd (ea'.trans hq.symm) e)
theorem put_keys (s : ByteArray → ByteArray → Bool) (t : Tr) (x : Itm) (d : Nat) {k : ByteArray} (hk : k ∈ (t.put h s x d).keys) : k = x.1 ∨ k ∈ t.keys := by
  induction t generalizing d with
  | nil => left; simpa [Tr.put, Tr.keys] using hk
  | leaf k0 r =>
    unfold Tr.put at hk
    split at hk
    · left; simpa [Tr.keys] using hk
    · rcases apart_keys _ _ _ _ hk with q | q
      · right; simp [Tr.keys, q]
      · exact .inl q
  | node l r ihl ihr =>
    unfold Tr.put at hk
    split at hk
    · rcases keys_join _ _ hk with q | q
      · right; exact List.mem_append.2 (.inl q)
      · rcases ihr _ q with q | q
        · exact .inl q
        · right; exact List.mem_append.2 (.inr q)
    · rcases keys_join _ _ hk with q | q
      · rcases ihl _ q with q | q
        · exact .inl q
        · right; exact List.mem_append.2 (.inl q)
      · right; exact List.mem_append.2 (.inr q)
theorem del_keys (t : Tr) (x : ByteArray) (d : Nat) {k : ByteArray} (hk : k ∈ (t.del h x d).keys) : k ∈ t.keys := by
  induction t generalizing d with
  | nil => cases hk
  | leaf k0 r =>
    unfold Tr.del at hk
    split at hk
    · cases hk
    · exact hk
  | node l r ihl ihr =>
    unfold Tr.del at hk
    split at hk
    · rcases keys_join _ _ hk with q | q
      · exact List.mem_append.2 (.inl q)
      · exact List.mem_append.2 (.inr (ihr _ q))
    · rcases keys_join _ _ hk with q | q
      · exact List.mem_append.2 (.inl (ihl _ q))
      · exact List.mem_append.2 (.inr q)
end

/-- A tree from a depth on, as Put and Del keep it. -/
structure TrOk (t : Tr) (d : Nat) : Prop where
  full : t.Full
  placed : t.Placed hbit d
  dp : t.dp + d ≤ 256
theorem TrOk.nil (d : Nat) (hd : d ≤ 256) : TrOk .nil d := ⟨trivial, trivial, by simpa [Tr.dp] using hd⟩
theorem sum_bits {a b : ByteArray} (h : sumK a ≠ sumK b) : ∃ i, i < 256 ∧ hbit a i ≠ hbit b i := by
  refine Classical.byContradiction fun hn => h ?_
  refine bits_apart (sha_size _) (sha_size _) fun i hi => Classical.byContradiction fun hne => hn ⟨i, hi, hne⟩
theorem put_placed {t : Tr} {x : Itm} {d : Nat} (hp : t.Placed hbit d) (hd : t.dp + d ≤ 256) (hb : ∀ k ∈ t.keys, sumK k ≠ sumK x.1 → ∃ i, d ≤ i ∧ i < 256 ∧ hbit k i ≠ hbit x.1 i) : (t.put hbit sameK x d).Placed hbit d ∧ (t.put hbit sameK x d).dp + d ≤ 256 := by
  induction t generalizing d with
  | nil => exact ⟨trivial, by simpa [Tr.put, Tr.dp] using hd⟩
  | leaf k0 r =>
    unfold Tr.put
    split
    · exact ⟨trivial, by simpa [Tr.dp] using hd⟩
    · rename_i e
      have hne : sumK k0 ≠ sumK x.1 := by unfold sameK at e; simpa using e
      obtain ⟨i, h1, h2, h3⟩ := hb k0 (by simp [Tr.keys]) hne
      have := apart_dp (h := hbit) (255 - d) (k0, r) x d
      exact ⟨apart_placed _ _ _ _ ⟨i, h1, by omega, h3⟩, by omega⟩
  | node l r ihl ihr =>
    obtain ⟨p1, p2, p3, p4⟩ := hp
    simp only [Tr.dp] at hd
    have more : ∀ (k : ByteArray) (q : Bool), hbit k d = q → hbit x.1 d = q → sumK k ≠ sumK x.1 → (∃ i, d ≤ i ∧ i < 256 ∧ hbit k i ≠ hbit x.1 i) → ∃ i, d + 1 ≤ i ∧ i < 256 ∧ hbit k i ≠ hbit x.1 i := fun k q e1 e2 _ ⟨i, h1, h2, h3⟩ => by
      refine ⟨i, ?_, h2, h3⟩
      rcases Nat.lt_or_ge d i with hlt | hge
      · exact hlt
      · obtain rfl : i = d := by omega
        exact absurd (e1.trans e2.symm) h3
    unfold Tr.put
    split
    · rename_i e
      obtain ⟨q1, q2⟩ := ihr p4 (by omega) fun k hk hne => more k true (p2 k hk) e hne (hb k (List.mem_append.2 (.inr hk)) hne)
      have := join_dp l (r.put hbit sameK x (d + 1))
      exact ⟨join_placed p3 q1 p1 fun k hk => by rcases put_keys _ _ _ _ hk with q | q; rw [q]; exact e; exact p2 k q, by omega⟩
    · rename_i e
      have e' : hbit x.1 d = false := by simpa using e
      obtain ⟨q1, q2⟩ := ihl p3 (by omega) fun k hk hne => more k false (p1 k hk) e' hne (hb k (List.mem_append.2 (.inl hk)) hne)
      have := join_dp (l.put hbit sameK x (d + 1)) r
      exact ⟨join_placed q1 p4 (fun k hk => by rcases put_keys _ _ _ _ hk with q | q; rw [q]; exact e'; exact p1 k q) p2, by omega⟩
theorem del_placed {t : Tr} {x : ByteArray} {d : Nat} (hp : t.Placed hbit d) (hd : t.dp + d ≤ 256) : (t.del hbit x d).Placed hbit d ∧ (t.del hbit x d).dp + d ≤ 256 := by
  induction t generalizing d with
  | nil => exact ⟨trivial, hd⟩
  | leaf k0 r =>
    unfold Tr.del
    split
    · exact ⟨trivial, by simpa [Tr.dp] using hd⟩
    · exact ⟨hp, hd⟩
  | node l r ihl ihr =>
    obtain ⟨p1, p2, p3, p4⟩ := hp
    simp only [Tr.dp] at hd
    unfold Tr.del
    split
    · obtain ⟨q1, q2⟩ := ihr p4 (by omega)
      have := join_dp l (r.del hbit x (d + 1))
      exact ⟨join_placed p3 q1 p1 fun k hk => p2 k (del_keys _ _ _ hk), by omega⟩
    · obtain ⟨q1, q2⟩ := ihl p3 (by omega)
      have := join_dp (l.del hbit x (d + 1)) r
      exact ⟨join_placed q1 p4 (fun k hk => p1 k (del_keys _ _ _ hk)) p2, by omega⟩
theorem TrOk.put {t : Tr} (h : TrOk t 0) (x : Itm) : TrOk (t.put hbit sameK x 0) 0 := by
  obtain ⟨h1, h2⟩ := put_placed (x := x) h.placed h.dp fun k _ hne => by obtain ⟨i, a, b⟩ := sum_bits hne; exact ⟨i, Nat.zero_le _, a, b⟩
  exact ⟨(put_full hbit sameK h.full x 0).1, h1, h2⟩
theorem TrOk.del {t : Tr} (h : TrOk t 0) (k : ByteArray) : TrOk (t.del hbit k 0) 0 := by
  obtain ⟨h1, h2⟩ := del_placed (x := k) h.placed h.dp
  exact ⟨(del_full hbit h.full k 0).1, h1, h2⟩
end Go.Proofs.YtlmhphejgahfbaaGreatDoor
/- Layer 15 (ledger): a ledger as plain data, and what is done with it. -/
set_option linter.unusedVariables false
set_option linter.unusedSimpArgs false
namespace Go.Proofs.YtlmhphejgahfbaaGreatDoor

/-- A write in a record. -/
def wrB (x : Wr) : Bs := beN x.key.size 2 ++ keyB x.key ++ (if x.gone then [1] else 0 :: (beN x.row.length 2 ++ x.row))
/-- A record. -/
def recB (n : Int) (ws : List Wr) : Bs := beN n.toNat 8 ++ beN ws.length 2 ++ ws.flatMap wrB

/-- A state: its digest, the one ahead, the record's sum, and the tree behind it. -/
structure Stt where
  dig : ByteArray
  last : ByteArray
  sum : ByteArray
  t : Tr
/-- An open transaction. -/
structure LTx where
  id : Int
  base : Int
  ws : List Wr
structure Led where
  tabs : List Tab
  s : Sto
  txs : List LTx
  next : Int
  sts : List Stt
namespace Led
def find (L : Led) (id : Int) : Option LTx := L.txs.find? fun x => decide (x.id = id)
def new (tabs : List Tab) : Led := ⟨tabs, Sto.empty, [], 0, [⟨firstD, dE, sha [], .nil⟩]⟩
def begin_ (L : Led) : Led := { L with next := L.next + 1, txs := L.txs ++ [⟨L.next + 1, L.s.now, []⟩] }
def without (L : Led) (id : Int) : Led := { L with txs := L.txs.filter fun x => !decide (x.id = id) }
def setTx (L : Led) (id : Int) (ws : List Wr) : Led := { L with txs := L.txs.map fun x => if x.id = id then { x with ws := ws } else x }
/-- Was a key that it wrote written since? -/
def late (L : Led) (x : LTx) : Bool := x.ws.any fun w => decide (x.base < L.s.last w.key)
/-- What has come of one more. -/
def formStep (L : Led) (seen : List Int) (st : List Int × List Wr) (id : Int) : List Int × List Wr :=
  match L.find id with
  | none => (st.1 ++ [6], st.2)
  | some x =>
    if id ∈ seen then (st.1 ++ [6], st.2)
    else if (L.late x || x.ws.any fun w => st.2.any fun y => decide (y.key = w.key)) = true then (st.1 ++ [7], st.2)
    else (st.1 ++ [0], st.2 ++ x.ws)
/-- What has come of so many. -/
def formN (L : Led) (ids : List Int) : Nat → List Int × List Wr
  | 0 => ([], [])
  | n + 1 => L.formStep (ids.take n) (formN L ids n) (ids.getD n 0)
/-- The least number that somebody sees. -/
def below (L : Led) : Int := L.txs.foldl (fun a x => min a x.base) L.s.now
def growT (t : Tr) (ws : List Wr) : Tr := ws.foldl (fun t w => if w.gone then t.del hbit w.key 0 else t.put hbit sameK (w.key, w.row) 0) t
def last (L : Led) : Stt := L.sts.getLastD ⟨firstD, dE, sha [], .nil⟩
/-- One more state. -/
def grown (L : Led) (ws : List Wr) : Stt := ⟨linkD L.last.dig (digT (growT L.last.t ws)) (recB (L.s.now + 1) ws), L.last.dig, sha (recB (L.s.now + 1) ws), growT L.last.t ws⟩
def keep6 (l : List Stt) : List Stt := l.drop (l.length - 6)
def dropped (L : Led) (ids : List Int) : Led := ids.foldl without L
def applied (L : Led) (ws : List Wr) : Led := { L with s := ⟨ws.foldl (Sto.put1 (L.s.now + 1)) L.s.kc, L.s.now + 1⟩, sts := keep6 (L.sts ++ [L.grown ws]) }
def publish (L : Led) (ws : List Wr) (ids : List Int) : Led :=
  if ws = [] then L.dropped ids else { (L.applied ws).dropped ids with s := ((L.applied ws).dropped ids).s.trim ((L.applied ws).dropped ids).below }
end Led

/-! ### Transactions by their numbers -/
theorem find_begin {L : Led} (hn : ∀ x ∈ L.txs, x.id ≤ L.next) (id : Int) : L.begin_.find id = if id = L.next + 1 then some ⟨L.next + 1, L.s.now, []⟩ else L.find id := by
  unfold Led.find Led.begin_
  simp only [List.find?_append, List.find?_cons, List.find?_nil]
  by_cases h : id = L.next + 1
  · subst h
    have h0 : (L.txs.find? fun x => decide (x.id = L.next + 1)) = none := by
      rw [List.find?_eq_none]
      intro x hx
      have := hn x hx
      simp; omega
    rw [h0, if_pos rfl]
    simp
  · rw [if_neg h, decide_eq_false (fun e => h e.symm)]
    simp
theorem find_without {L : Led} (id id' : Int) : (L.without id).find id' = if id' = id then none else L.find id' := by
  unfold Led.find Led.without
  simp only [List.find?_filter]
  by_cases h : id' = id
  · subst h
    rw [if_pos rfl, List.find?_eq_none]
    intro x _
    simp
  · rw [if_neg h]
    congr 1
    funext x
    by_cases e : x.id = id'
    · have : ¬ x.id = id := fun q => h (e.symm.trans q)
      simp [e, this, h]
    · simp [e]
theorem find_setTx {L : Led} (id : Int) (ws : List Wr) (id' : Int) : (L.setTx id ws).find id' = if id' = id then (L.find id).map (fun x => { x with ws := ws }) else L.find id' := by
  unfold Led.find Led.setTx
  simp only [List.find?_map]
  have e0 : ((fun x : LTx => decide (x.id = id')) ∘ fun x => if x.id = id then { x with ws := ws } else x) = fun x => decide (x.id = id') := by
    funext x
    by_cases h : x.id = id <;> simp [h]
  rw [e0]
  by_cases h : id' = id
  · subst h
    rw [if_pos rfl]
    cases hf : L.txs.find? fun x => decide (x.id = id') with
    | none => rfl
    | some x =>
      have hx : x.id = id' := by simpa using List.find?_some hf
      simp [hx]
  · rw [if_neg h]
    cases hf : L.txs.find? fun x => decide (x.id = id') with
    | none => rfl
    | some x =>
      have hx : x.id = id' := by simpa using List.find?_some hf
      have : ¬ x.id = id := fun q => h (hx.symm.trans q)
      simp [this]
theorem find_id {L : Led} {id : Int} {x : LTx} (h : L.find id = some x) : x.id = id ∧ x ∈ L.txs := ⟨by simpa using List.find?_some h, List.mem_of_find?_eq_some h⟩
/-- A ledger of few things: m of each. -/
structure Led.Ok (L : Led) (m : Nat) : Prop where
  tabs : TabsOk L.tabs
  sto : L.s.Small m
  next0 : 0 ≤ L.next
  next1 : L.next ≤ m
  ids : ∀ x ∈ L.txs, 1 ≤ x.id ∧ x.id ≤ L.next
  once : (L.txs.map LTx.id).Nodup
  base : ∀ x ∈ L.txs, 0 ≤ x.base ∧ x.base ≤ L.s.now
  ws : ∀ x ∈ L.txs, x.ws.length ≤ 20 ∧ ∀ y ∈ x.ws, 1 ≤ y.key.size ∧ y.key.size ≤ 1000 ∧ y.row.length ≤ 4000 ∧ (y.gone = true → y.row = [])
  rise : ∀ x ∈ L.txs, Rising (x.ws.map Wr.key)
  sts : 1 ≤ L.sts.length ∧ L.sts.length ≤ 6
  st : ∀ x ∈ L.sts, x.dig.size = 32 ∧ x.last.size = 32 ∧ x.sum.size = 32 ∧ TrOk x.t 0 ∧ x.t.len ≤ 64 * m
theorem Led.Ok.find {L : Led} {m : Nat} (h : L.Ok m) {id : Int} {x : LTx} (hf : L.find id = some x) : 1 ≤ id ∧ id ≤ L.next := by
  obtain ⟨e, hx⟩ := find_id hf
  have := h.ids x hx
  rw [e] at this
  exact this
end Go.Proofs.YtlmhphejgahfbaaGreatDoor
