/- The program's tree: put, Put, del, Del. -/
import Derived.Test.YtlgmodeibmdcgaaDoorTrie4
set_option linter.unusedVariables false
set_option linter.unusedSimpArgs false
namespace Go.Proofs.YtlgmodeibmdcgaaDoor
open Go.RowKit

set_option maxHeartbeats 2000000 in
set_option maxRecDepth 100000 in
theorem put_nil {w : World} {vx : Value} (d : Int) : Calls Tryd.prog 36 #[.pointer none, vx, .int .i64 d] w fun e w' => e = .returned vx ∧ Fr No w w' := by
  go_enter Tryd.func36, Tryd.ntmps36
  go_wp2_with fail
  go_quiet (fail)
  go_wp2_with fail
  go_ret
  exact ⟨rfl, (Fr.refl No w).drewN nq⟩
set_option maxHeartbeats 2000000 in
set_option maxRecDepth 100000 in
theorem put_same {w : World} {b bx : Nat} {p : ByteArray} (d : Int) (hc : w.cell? ⟨b, 2, none⟩ = some (.string p)) (hx : w.cell? ⟨bx, 2, none⟩ = some (.string p))
    (hs : ∀ w1, Fr No w w1 → Calls Tryd.prog 41 #[.pointer (some ⟨b, 0, none⟩)] w1 fun e w' => e = .returned (.bool true) ∧ w' = w1) :
    Calls Tryd.prog 36 #[.pointer (some ⟨b, 0, none⟩), .pointer (some ⟨bx, 0, none⟩), .int .i64 d] w fun e w' => e = .returned (.pointer (some ⟨bx, 0, none⟩)) ∧ Fr No w w' := by
  have HS := Lib.hid hs
  clear hs
  go_enter Tryd.func36, Tryd.ntmps36
  go_wp2_with fail
  go_quiet ((go_at_call 41; exact Calls.quiet_of_same (HS.out _ (by repeat (first | assumption | exact Fr.refl _ _ | apply Fr.drew | apply Fr.drewN)))))
  go_wp2_with fail
  go_ret
  exact ⟨rfl, (Fr.refl No w).drewN nq⟩
set_option maxHeartbeats 2000000 in
set_option maxRecDepth 100000 in
theorem put_apart {w : World} {b bx : Nat} {p q : ByteArray} {d : Int} {P : Value → World → Prop} (hc : w.cell? ⟨b, 2, none⟩ = some (.string p)) (hx : w.cell? ⟨bx, 2, none⟩ = some (.string q)) (hne : p ≠ q)
    (hs : ∀ w1, Fr No w w1 → Calls Tryd.prog 41 #[.pointer (some ⟨b, 0, none⟩)] w1 fun e w' => e = .returned (.bool true) ∧ w' = w1)
    (ha : ∀ w1, Fr No w w1 → Calls Tryd.prog 52 #[.pointer (some ⟨b, 0, none⟩), .pointer (some ⟨bx, 0, none⟩), .int .i64 d] w1 fun e w' => ∃ u, e = .returned u ∧ P u w' ∧ Fr No w1 w') :
    Calls Tryd.prog 36 #[.pointer (some ⟨b, 0, none⟩), .pointer (some ⟨bx, 0, none⟩), .int .i64 d] w fun e w' => ∃ u, e = .returned u ∧ P u w' ∧ Fr No w w' := by
  have hne' : (p.toList == q.toList) = false := by rw [beq_toList]; exact decide_eq_false hne
  have HS := Lib.hid (And.intro hs ha)
  clear hs ha hne
  go_enter Tryd.func36, Tryd.ntmps36
  go_wp2_with fail
  go_quiet ((go_at_call 41; exact Calls.quiet_of_same (HS.out.1 _ (by repeat (first | assumption | exact Fr.refl _ _ | apply Fr.drew | apply Fr.drewN)))))
  have HF := Lib.hid ((Fr.refl No w).drewN nq)
  go_wp2_with fail
  refine (HS.out.1 _ HF.out).mono ?_
  rintro e w1 ⟨rfl, rfl⟩
  go_wp2_with fail
  refine (HS.out.2 _ HF.out).mono ?_
  rintro e w1 ⟨u, rfl, hu, hf⟩
  have HU := Lib.hid (And.intro hu (HF.out.trans (hf.mono fun _ _ f => f.elim)))
  clear hu hf
  go_wp2_with fail
  go_ret
  exact ⟨_, rfl, HU.out.1, HU.out.2⟩
set_option maxHeartbeats 2000000 in
set_option maxRecDepth 100000 in
theorem put_node {B : Nat} {w : World} {b bx : Nat} {p : ByteArray} {d : Int} {C X R : Tr} (hx : w.cell? ⟨bx, 2, none⟩ = some (.string p)) (hd0 : 0 ≤ d) (hd1 : d < 256)
    (hs : ∀ w1, Fr No w w1 → Calls Tryd.prog 41 #[.pointer (some ⟨b, 0, none⟩)] w1 fun e w' => e = .returned (.bool false) ∧ w' = w1)
    (hh : ∀ w1, Fr No w w1 → Calls Tryd.prog 48 #[.pointer (some ⟨b, 0, none⟩), .string p, .int .i64 d] w1 fun e w' => (∃ u, e = .returned u ∧ NodeAt B w u C) ∧ w' = w1)
    (hi : ∀ w1 u, Fr No w w1 → NodeAt B w u C → Calls Tryd.prog 36 #[u, .pointer (some ⟨bx, 0, none⟩), .int .i64 (d + 1)] w1 fun e w' => ∃ u', e = .returned u' ∧ NodeAt B w' u' X ∧ Fr No w1 w')
    (hw : ∀ w1 ux, Fr No w w1 → NodeAt B w1 ux X → Calls Tryd.prog 53 #[.pointer (some ⟨b, 0, none⟩), .string p, .int .i64 d, ux] w1 fun e w' => ∃ u, e = .returned u ∧ NodeAt B w' u R ∧ Fr No w1 w') :
    Calls Tryd.prog 36 #[.pointer (some ⟨b, 0, none⟩), .pointer (some ⟨bx, 0, none⟩), .int .i64 d] w fun e w' => ∃ u, e = .returned u ∧ NodeAt B w' u R ∧ Fr No w w' := by
  have HS := Lib.hid (And.intro hs (And.intro hh (And.intro hi hw)))
  have hdw : IntKind.i64.wrap (d + 1) = d + 1 := IntWalk.i64_in _ (by omega)
  clear hs hh hi hw
  go_enter Tryd.func36, Tryd.ntmps36
  go_wp2_with fail
  go_quiet ((go_at_call 41; exact Calls.quiet_of_same (HS.out.1 _ (by repeat (first | assumption | exact Fr.refl _ _ | apply Fr.drew | apply Fr.drewN)))))
  have HF := Lib.hid ((Fr.refl No w).drewN nq)
  go_wp2_with fail
  refine (HS.out.1 _ HF.out).mono ?_
  rintro e w1 ⟨rfl, rfl⟩
  go_wp2_with fail
  obtain ⟨W, hW⟩ : ∃ W, W = w.drewN nq := ⟨_, rfl⟩
  rw [← hW] at HF ⊢
  have c0 := HF.out.cell hx (fun f => f)
  clear hW
  have g0 := HF.out
  go_region_held3 (fun w' => w'.cell? ⟨bx, 2, none⟩ = some (.string p))
    (first
      | exact c0
      | exact q0)
    (first
      | (go_at_call 48; refine (HS.out.2.1 _ (by repeat (first | assumption | exact Fr.refl _ _ | apply Fr.drew | apply Fr.drewN))).mono ?_; rintro e1 w1 ⟨⟨u2, rfl, hu2⟩, rfl⟩
         have HU := Lib.hid hu2
         clear hu2)
      | (go_at_call 36; refine (HS.out.2.2.1 _ _ (by repeat (first | assumption | exact Fr.refl _ _ | apply Fr.drew | apply Fr.drewN)) HU.out).mono ?_; rintro e3 w3 ⟨u3, rfl, hu3, hf3⟩
         have g3 : Fr No w w3 := Fr.trans (by repeat (first | assumption | exact Fr.refl _ _ | apply Fr.drew | apply Fr.drewN)) (hf3.mono fun _ _ f => f.elim)
         have q0 := g3.cell hx (fun f => f)
         have HX := Lib.hid hu3
         clear hu3 hf3)
      | (go_at_call 53; refine (HS.out.2.2.2 _ _ (by repeat (first | assumption | exact Fr.refl _ _ | apply Fr.drew | apply Fr.drewN)) (HX.out.fr0 (by repeat (first | assumption | exact Fr.refl _ _ | apply Fr.drew | apply Fr.drewN)))).mono ?_; rintro e4 w4 ⟨u4, rfl, hu4, hf4⟩
         have g4 : Fr No w w4 := Fr.trans (by repeat (first | assumption | exact Fr.refl _ _ | apply Fr.drew | apply Fr.drewN)) (hf4.mono fun _ _ f => f.elim)
         have q0 := g4.cell hx (fun f => f)
         have HY := Lib.hid hu4
         clear hu4 hf4))
  all_goals
    go_wp2_with fail
    go_ret
    exact ⟨_, rfl, HY.out.fr0 (by repeat (first | assumption | exact Fr.refl _ _ | apply Fr.drew | apply Fr.drewN)), (by repeat (first | assumption | exact Fr.refl _ _ | apply Fr.drew | apply Fr.drewN))⟩

theorem leaf_cell {B : Nat} {w : World} {b : Nat} {k : ByteArray} {r : Bs} (h : NodeAt B w (.pointer (some ⟨b, 0, none⟩)) (.leaf k r)) : w.cell? ⟨b, 2, none⟩ = some (.string (sumK k)) := by
  obtain ⟨b', A, c, e, _, h3, _⟩ := h
  obtain rfl : b = b' := by simpa using e
  exact blk_cell h3 2
theorem leaf_key {B : Nat} {w : World} {b : Nat} {k : ByteArray} {r : Bs} (h : NodeAt B w (.pointer (some ⟨b, 0, none⟩)) (.leaf k r)) : w.cell? ⟨b, 3, none⟩ = some (.string k) := by
  obtain ⟨b', A, c, e, _, h3, _⟩ := h
  obtain rfl : b = b' := by simpa using e
  exact blk_cell h3 3
theorem put_ok' {B : Nat} {bx : Nat} {x : Itm} {t : Tr} {w : World} {v : Value} {d : Nat} (h : NodeAt B w v t) (hx : NodeAt B w (.pointer (some ⟨bx, 0, none⟩)) (.leaf x.1 x.2)) (hk : KAt w) (hB : B ≤ w.heap.size) (hf : t.Full) (hl : t.len ≤ 400000) (hdp : t.dp + d ≤ 256)
    (hpl : t.Placed hbit d) (hsep : ∀ k ∈ t.keys, sumK k ≠ sumK x.1 → ∃ i, d ≤ i ∧ i < 256 ∧ hbit k i ≠ hbit x.1 i) :
    Calls Tryd.prog 36 #[v, .pointer (some ⟨bx, 0, none⟩), .int .i64 (d : Int)] w fun e w' => ∃ u, e = .returned u ∧ NodeAt B w' u (t.put hbit sameK x d) ∧ Fr No w w' := by
  induction t generalizing v d w with
  | nil =>
    obtain rfl : v = _ := h
    refine (put_nil (d : Int)).mono ?_
    rintro e w' ⟨rfl, hf'⟩
    exact ⟨_, rfl, hx.fr0 hf', hf'⟩
  | leaf k r =>
    have hn := h
    obtain ⟨b, A, c, rfl, _, h3, h4⟩ := h
    have c2 := leaf_cell hn
    have hs : ∀ w1, Fr No w w1 → Calls Tryd.prog 41 #[.pointer (some ⟨b, 0, none⟩)] w1 fun e w' => e = .returned (.bool true) ∧ w' = w1 := fun w1 f => single_ok (hn.fr0 f)
    unfold Tr.put
    by_cases he : sumK k = sumK x.1
    · rw [show sameK k x.1 = true from decide_eq_true he, if_pos rfl]
      rw [he] at c2
      refine (put_same (d : Int) c2 (leaf_cell hx) hs).mono ?_
      rintro e w' ⟨rfl, hf'⟩
      exact ⟨_, rfl, hx.fr0 hf', hf'⟩
    · rw [show sameK k x.1 = false from decide_eq_false he, if_neg (by decide)]
      have hi := hsep k (by simp [Tr.keys]) he
      have hd : d < 256 := by obtain ⟨i, h1, h2, _⟩ := hi; omega
      exact put_apart c2 (leaf_cell hx) he hs fun w1 f => apart_ok (a := (k, r)) (b := x) (255 - d) (by omega) hi (hn.fr0 f) (hx.fr0 f) (hk.fr0 f) (Nat.le_trans hB f.size)
  | node l r ihl ihr =>
    have hn := h
    obtain ⟨hp1, hp2, hp3, hp4⟩ := hpl
    obtain ⟨f1, f2, f3⟩ := hf
    simp only [Tr.dp] at hdp
    have hd : d < 256 := by omega
    obtain ⟨b, rfl⟩ := h.ptr rfl
    have hlen : l.len + r.len ≤ 400000 := hl
    have hsx : (sumK x.1).size = 32 := sha_size _
    have hkeys : (Tr.node l r).keys = l.keys ++ r.keys := rfl
    rw [hkeys] at hsep
    unfold Tr.put
    have more : ∀ c : Bool, hbit x.1 d = c → ∀ K : List ByteArray, (∀ k ∈ K, k ∈ l.keys ++ r.keys) → (∀ k ∈ K, hbit k d = c) → ∀ k ∈ K, sumK k ≠ sumK x.1 → ∃ i, d + 1 ≤ i ∧ i < 256 ∧ hbit k i ≠ hbit x.1 i := by
      intro c hc K hK hKc k hkK hne
      obtain ⟨i, h1, h2, h3⟩ := hsep k (hK k hkK) hne
      refine ⟨i, ?_, h2, h3⟩
      rcases Nat.lt_or_ge d i with h | h
      · exact h
      · obtain rfl : i = d := by omega
        exact absurd ((hKc k hkK).trans hc.symm) h3
    have hs : ∀ w1, Fr No w w1 → Calls Tryd.prog 41 #[.pointer (some ⟨b, 0, none⟩)] w1 fun e w' => e = .returned (.bool false) ∧ w' = w1 := fun w1 f => single_ok (hn.fr0 f)
    have hbx : hbit x.1 d = bitB (sumK x.1) d := rfl
    cases hc : hbit x.1 d with
    | false =>
      rw [if_neg (by decide)]
      obtain ⟨i1, i2⟩ := put_full hbit sameK f1 x (d + 1)
      refine put_node (C := l) (X := l.put hbit sameK x (d + 1)) (leaf_cell hx) (by omega) (by omega) hs (fun w1 f => ?_) (fun w1 u f hu => ?_) (fun w1 ux f hux => ?_)
      · have := half_base hn f hsx hd
        rw [← hbx, hc] at this
        exact this
      · exact ihl (d := d + 1) (hu.fr0 f) (hx.fr0 f) (hk.fr0 f) (Nat.le_trans hB f.size) f1 (by omega) (by omega) hp3 (more false hc _ (fun k hk => by simp [hk]) hp1)
      · have := with_ok (d := d) (hn.fr0 f) hux hsx hd (hk.fr0 f) (Nat.le_trans hB f.size) f1 f2 i1 (by omega)
        rw [← hbx, hc] at this
        exact this
    | true =>
      rw [if_pos rfl]
      obtain ⟨i1, i2⟩ := put_full hbit sameK f2 x (d + 1)
      refine put_node (C := r) (X := r.put hbit sameK x (d + 1)) (leaf_cell hx) (by omega) (by omega) hs (fun w1 f => ?_) (fun w1 u f hu => ?_) (fun w1 ux f hux => ?_)
      · have := half_base hn f hsx hd
        rw [← hbx, hc] at this
        exact this
      · exact ihr (d := d + 1) (hu.fr0 f) (hx.fr0 f) (hk.fr0 f) (Nat.le_trans hB f.size) f2 (by omega) (by omega) hp4 (more true hc _ (fun k hk => by simp [hk]) hp2)
      · have := with_ok (d := d) (hn.fr0 f) hux hsx hd (hk.fr0 f) (Nat.le_trans hB f.size) f1 f2 i1 (by omega)
        rw [← hbx, hc] at this
        exact this
end Go.Proofs.YtlgmodeibmdcgaaDoor
