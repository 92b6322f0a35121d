/- Reference 9 (trie): Digest. -/
import Derived.Test.YtlgmodeibmdcgaaDoorRef9d
set_option linter.unusedVariables false
set_option linter.unusedSimpArgs false
namespace Go.Proofs.YtlgmodeibmdcgaaDoor
open Go.RowKit

def digI (n : Nat) (m : List Itm) (d : Nat) : ByteArray := digL dE dL dN hbit n m d
theorem digI_size (n : Nat) (m : List Itm) (d : Nat) : (digI n m d).size = 32 := by
  unfold digI
  match n, m with
  | 0, [] => exact sha_size _
  | _ + 1, [] => exact sha_size _
  | 0, [_] => exact sha_size _
  | _ + 1, [_] => exact sha_size _
  | 0, _ :: _ :: _ => exact sha_size _
  | _ + 1, _ :: _ :: _ => exact sha_size _

set_option maxHeartbeats 2000000 in
set_option maxRecDepth 100000 in
theorem ref_dig_none {w : World} {A : Option Addr} {c : Nat} (d : Int) : Calls Tryd.prog 16 #[.slice A 0 c, .int .i64 d] w fun e w' => e = .returned (.string dE) ∧ Fr No w w' := by
  have H := Lib.hid ref_empty
  go_enter Tryd.func16, Tryd.ntmps16
  go_wp2_with fail
  refine (H.out _).mono ?_
  rintro e w1 ⟨rfl, hf⟩
  go_wp2_with fail
  go_ret
  exact ⟨rfl, hf⟩
set_option maxHeartbeats 4000000 in
set_option maxRecDepth 100000 in
theorem ref_dig_leaf {B : Nat} {w : World} {A : Option Addr} {c n : Nat} {x : Itm} {m : List Itm} {d : Int} (h : RdI B w A (x :: m)) (hs : x.1.size ≤ 1000 ∧ x.2.length ≤ 100000) (hn : n = (x :: m).length) (hd : n = 1 ∨ 255 < d) (hn1 : n ≤ 1000) :
    Calls Tryd.prog 16 #[.slice A n c, .int .i64 d] w fun e w' => e = .returned (.string (dL x)) ∧ Fr No w w' := by
  obtain ⟨ad, R, cx, rfl, x0, x1, hcx, hx⟩ := itm_at h (i := 0) (by simp)
  simp only [List.getElem_cons_zero] at x0 x1 hcx hx
  rw [Nat.zero_mul] at x0 x1
  have ha0 : ad.add 0 = ad := by simp [Addr.add]
  rw [ha0] at x0 x1
  have hn0 : 0 < n := by rw [hn]; simp
  have hne : ((n : Int) == 0) = false := beq_eq_false_iff_ne.2 (by omega)
  have hgt : n = 1 ∨ (((n : Int) == 1) = false ∧ decide ((255 : Int) < d) = true) := by
    by_cases h1 : n = 1
    · exact .inl h1
    · refine .inr ⟨beq_eq_false_iff_ne.2 (by omega), decide_eq_true ?_⟩
      rcases hd with h | h
      · exact absurd h h1
      · exact h
  have hlb := fun (w1 : World) (f : Fr No w w1) => ref_leafb (c := cx) x.1 (hx.fr0 f) hs.1 hs.2
  have hsm := fun (w1 : World) (A1 : Option Addr) (c1 : Nat) (F : Nat → Prop) (hr : Rd Ty.u8 w1 F A1 (leafB x.1 x.2)) => ref_sum (c := c1) hr (by unfold leafB; rw [List.length_append, List.length_append, List.length_append, keyB_len, beN_len]; simp; omega)
  rw [show dL x = sha (leafB x.1 x.2) from rfl]
  obtain ⟨L, hL⟩ : ∃ L, leafB x.1 x.2 = L := ⟨_, rfl⟩
  simp only [hL] at hlb hsm
  rw [hL]
  have H := Lib.hid (And.intro hlb hsm)
  have hn0i : (0 : Int) < (n : Int) := by omega
  clear hL h hs hn hd hcx hx hlb hsm
  obtain ⟨kx, hkx⟩ : ∃ kx, x.1 = kx := ⟨_, rfl⟩
  obtain ⟨lx, hlx⟩ : ∃ lx, x.2.length = lx := ⟨_, rfl⟩
  rw [hkx] at x0 H
  rw [hlx] at x1 H
  clear hkx hlx
  rcases hgt with rfl | ⟨hg1, hg2⟩
  · clear hn1 hne hn0i hn0
    go_enter Tryd.func16, Tryd.ntmps16
    go_wp2_with fail
    go_region_held3 (fun w' => w'.cell? ad = some (.string kx) ∧ w'.cell? ⟨ad.block, ad.off + 1, none⟩ = some (.slice R lx cx))
      (first
        | exact ⟨x0, x1⟩
        | exact ⟨q0, q1⟩)
      (first
        | (go_at_call 26; refine (H.out.1 _ (by repeat (first | assumption | exact Fr.refl _ _ | apply Fr.drew | apply Fr.drewN))).mono ?_; rintro e1 w1 ⟨A1, c1, rfl, hO, hf⟩
           have g1 : Fr No w w1 := Fr.trans (by repeat (first | assumption | exact Fr.refl _ _ | apply Fr.drew | apply Fr.drewN)) (hf.mono fun _ _ f => f.elim)
           have q0 := g1.cell x0 (fun f => f)
           have q1 := g1.cell x1 (fun f => f)
           have HO := Lib.hid hO.rd.2.2
           clear hO hf)
        | (go_at_call 21; refine (H.out.2 _ _ _ _ (HO.out.fr0 (by repeat (first | assumption | exact Fr.refl _ _ | apply Fr.drew | apply Fr.drewN)))).mono ?_; rintro e2 w2 ⟨rfl, hf⟩
           have g2 : Fr No w w2 := Fr.trans (by repeat (first | assumption | exact Fr.refl _ _ | apply Fr.drew | apply Fr.drewN)) (hf.mono fun _ _ f => f.elim)
           have q0 := g2.cell x0 (fun f => f)
           have q1 := g2.cell x1 (fun f => f)
           clear hf))
    all_goals
      go_wp2_with fail
      go_ret
      exact ⟨rfl, (by repeat (first | assumption | exact Fr.refl _ _ | apply Fr.drew | apply Fr.drewN))⟩
  · clear hn1
    go_enter Tryd.func16, Tryd.ntmps16
    go_wp2_with fail
    go_region_held3 (fun w' => w'.cell? ad = some (.string kx) ∧ w'.cell? ⟨ad.block, ad.off + 1, none⟩ = some (.slice R lx cx))
      (first
        | exact ⟨x0, x1⟩
        | exact ⟨q0, q1⟩)
      (first
        | (go_at_call 26; refine (H.out.1 _ (by repeat (first | assumption | exact Fr.refl _ _ | apply Fr.drew | apply Fr.drewN))).mono ?_; rintro e1 w1 ⟨A1, c1, rfl, hO, hf⟩
           have g1 : Fr No w w1 := Fr.trans (by repeat (first | assumption | exact Fr.refl _ _ | apply Fr.drew | apply Fr.drewN)) (hf.mono fun _ _ f => f.elim)
           have q0 := g1.cell x0 (fun f => f)
           have q1 := g1.cell x1 (fun f => f)
           have HO := Lib.hid hO.rd.2.2
           clear hO hf)
        | (go_at_call 21; refine (H.out.2 _ _ _ _ (HO.out.fr0 (by repeat (first | assumption | exact Fr.refl _ _ | apply Fr.drew | apply Fr.drewN)))).mono ?_; rintro e2 w2 ⟨rfl, hf⟩
           have g2 : Fr No w w2 := Fr.trans (by repeat (first | assumption | exact Fr.refl _ _ | apply Fr.drew | apply Fr.drewN)) (hf.mono fun _ _ f => f.elim)
           have q0 := g2.cell x0 (fun f => f)
           have q1 := g2.cell x1 (fun f => f)
           clear hf))
    all_goals
      go_wp2_with fail
      go_ret
      exact ⟨rfl, (by repeat (first | assumption | exact Fr.refl _ _ | apply Fr.drew | apply Fr.drewN))⟩
set_option maxHeartbeats 4000000 in
set_option maxRecDepth 100000 in
theorem ref_dig_node {B : Nat} {w : World} {A : Option Addr} {c n : Nat} {d : Int} {m0 m1 : List Itm} {x0 x1 : ByteArray} (hd0 : 0 ≤ d) (hd1 : d ≤ 255) (hn : 2 ≤ n) (hn1 : n ≤ 1000) (hx0 : x0.size = 32) (hx1 : x1.size = 32)
    (h0 : ∀ w1, Fr No w w1 → Calls Tryd.prog 23 #[.slice A n c, .int .i64 d, .int .i64 0] w1 fun e w' => ∃ A1 c1, e = .returned (.slice A1 m0.length c1) ∧ RdI B w' A1 m0 ∧ Fr No w1 w')
    (h1 : ∀ w1, Fr No w w1 → Calls Tryd.prog 23 #[.slice A n c, .int .i64 d, .int .i64 1] w1 fun e w' => ∃ A1 c1, e = .returned (.slice A1 m1.length c1) ∧ RdI B w' A1 m1 ∧ Fr No w1 w')
    (g0 : ∀ w1 A1 c1, Fr No w w1 → RdI B w1 A1 m0 → Calls Tryd.prog 16 #[.slice A1 m0.length c1, .int .i64 (d + 1)] w1 fun e w' => e = .returned (.string x0) ∧ Fr No w1 w')
    (g1 : ∀ w1 A1 c1, Fr No w w1 → RdI B w1 A1 m1 → Calls Tryd.prog 16 #[.slice A1 m1.length c1, .int .i64 (d + 1)] w1 fun e w' => e = .returned (.string x1) ∧ Fr No w1 w') :
    Calls Tryd.prog 16 #[.slice A n c, .int .i64 d] w fun e w' => e = .returned (.string (dN x0 x1)) ∧ Fr No w w' := by
  have hne : ((n : Int) == 0) = false := beq_eq_false_iff_ne.2 (by omega)
  have hne1 : ((n : Int) == 1) = false := beq_eq_false_iff_ne.2 (by omega)
  have hdd : decide ((255 : Int) < d) = false := decide_eq_false (by omega)
  have hnb := fun w => ref_nodeb w x0 x1 (by omega) (by omega)
  have hsm := fun (w1 : World) (A1 : Option Addr) (c1 : Nat) (F : Nat → Prop) (hr : Rd Ty.u8 w1 F A1 (nodeB x0 x1)) => ref_sum (c := c1) hr (by unfold nodeB; rw [List.length_append, List.length_append, keyB_len, keyB_len]; simp; omega)
  rw [show dN x0 x1 = sha (nodeB x0 x1) from rfl]
  obtain ⟨L, hL⟩ : ∃ L, nodeB x0 x1 = L := ⟨_, rfl⟩
  simp only [hL] at hnb hsm
  rw [hL]
  have H := Lib.hid (And.intro h0 (And.intro h1 (And.intro g0 (And.intro g1 (And.intro hnb hsm)))))
  have hni : (2 : Int) ≤ (n : Int) := by omega
  clear hL h0 h1 g0 g1 hnb hsm hx0 hx1 hn hn1
  obtain ⟨l0, hl0⟩ : ∃ l0, m0.length = l0 := ⟨_, rfl⟩
  obtain ⟨l1, hl1⟩ : ∃ l1, m1.length = l1 := ⟨_, rfl⟩
  rw [hl0, hl1] at H
  clear hl0 hl1
  go_enter Tryd.func16, Tryd.ntmps16
  go_wp2_with fail
  refine (H.out.1 _ (Fr.refl _ _)).mono ?_
  rintro e w1 ⟨A1, c1, rfl, hr, hf⟩
  have H1 := Lib.hid (And.intro hr hf)
  clear hr hf
  go_wp2_with fail
  refine (H.out.2.2.1 _ _ _ H1.out.2 H1.out.1).mono ?_
  rintro e w2 ⟨rfl, hf⟩
  have H2 := Lib.hid (H1.out.2.trans (hf.mono fun _ _ f => f.elim))
  clear hf
  go_wp2_with fail
  refine (H.out.2.1 _ H2.out).mono ?_
  rintro e w3 ⟨A3, c3, rfl, hr, hf⟩
  have H3 := Lib.hid (And.intro hr (H2.out.trans (hf.mono fun _ _ f => f.elim)))
  clear hr hf
  go_wp2_with fail
  refine (H.out.2.2.2.1 _ _ _ H3.out.2 H3.out.1).mono ?_
  rintro e w4 ⟨rfl, hf⟩
  have H4 := Lib.hid (H3.out.2.trans (hf.mono fun _ _ f => f.elim))
  clear hf
  go_wp2_with fail
  refine (H.out.2.2.2.2.1 _).mono ?_
  rintro e w5 ⟨A5, c5, rfl, hr, hf⟩
  have H5 := Lib.hid (And.intro hr (H4.out.trans (hf.mono fun _ _ f => f.elim)))
  clear hr hf
  go_wp2_with fail
  refine (H.out.2.2.2.2.2 _ _ _ _ H5.out.1).mono ?_
  rintro e w6 ⟨rfl, hf⟩
  have H6 := Lib.hid (H5.out.2.trans (hf.mono fun _ _ f => f.elim))
  clear hf
  go_wp2_with fail
  go_ret
  exact ⟨rfl, H6.out⟩
theorem SmallI.half {m : List Itm} (h : SmallI m) (d : Nat) (b : Bool) : SmallI (half hbit m d b) := fun x hx => h x (mem_half.1 hx).1
theorem half_le (m : List Itm) (d : Nat) (b : Bool) : (half hbit m d b).length ≤ m.length := List.length_filter_le _ _
theorem ref_digest {B : Nat} (n : Nat) {m : List Itm} {d : Nat} (hnd : n + d = 256) {w : World} {A : Option Addr} {c : Nat} (h : RdI B w A m) (hs : SmallI m) (hm : m.length ≤ 1000) (hB : B ≤ w.heap.size) :
    Calls Tryd.prog 16 #[.slice A m.length c, .int .i64 (d : Int)] w fun e w' => e = .returned (.string (digI n m d)) ∧ Fr No w w' := by
  induction n generalizing m d w A c with
  | zero =>
    match m, h, hs, hm with
    | [], _, _, _ => exact ref_dig_none (d : Int)
    | x :: m, h, hs, hm =>
      have e : digI 0 (x :: m) d = dL x := by cases m <;> rfl
      rw [e]
      exact ref_dig_leaf h (hs x (by simp)) rfl (.inr (by omega)) hm
  | succ n ih =>
    match m, h, hs, hm with
    | [], _, _, _ => exact ref_dig_none (d : Int)
    | [x], h, hs, hm =>
      exact ref_dig_leaf h (hs x (by simp)) rfl (.inl rfl) hm
    | x :: y :: m, h, hs, hm =>
      have hh := fun (b : Bool) (w1 : World) (f : Fr No w w1) => ref_half (c := c) d b (h.fr0 f) hs (by omega) hm (Nat.le_trans hB f.size)
      refine ref_dig_node (B := B) (m0 := half hbit (x :: y :: m) d false) (m1 := half hbit (x :: y :: m) d true) (by omega) (by omega) (by simp) hm (digI_size n _ _) (digI_size n _ _) (fun w1 f => ?_) (fun w1 f => ?_) (fun w1 A1 c1 f hr => ?_) (fun w1 A1 c1 f hr => ?_)
      · refine (hh false w1 f).mono ?_
        rintro e w' ⟨A1, c1, rfl, hI, hf⟩
        exact ⟨A1, c1, rfl, hI.1.rd.2.2, hf⟩
      · refine (hh true w1 f).mono ?_
        rintro e w' ⟨A1, c1, rfl, hI, hf⟩
        exact ⟨A1, c1, rfl, hI.1.rd.2.2, hf⟩
      · exact ih (d := d + 1) (by omega) hr (hs.half d false) (Nat.le_trans (half_le _ _ _) hm) (Nat.le_trans hB f.size)
      · exact ih (d := d + 1) (by omega) hr (hs.half d true) (Nat.le_trans (half_le _ _ _) hm) (Nat.le_trans hB f.size)
end Go.Proofs.YtlgmodeibmdcgaaDoor
