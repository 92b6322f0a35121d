/- Texts of this claim, one behind the other: Trie2, Trie3, Trie4, Trie5. -/
import Derived.Test.YtlmhphejgahfbaaGreatDoorMrowledgerdeletes14
/- The program's tree: half, with, Get, Halves, Leaf, apart, put, del. -/
set_option linter.unusedVariables false
set_option linter.unusedSimpArgs false
namespace Go.Proofs.YtlmhphejgahfbaaGreatDoor
open Go.RowKit

theorem bit_of (p : ByteArray) (d : Nat) : bitN p d = 0 ∧ bitB p d = false ∨ bitN p d = 1 ∧ bitB p d = true := by
  have := bitN_lt p d
  unfold bitB
  rcases Nat.lt_or_ge (bitN p d) 1 with h | h
  · have : bitN p d = 0 := by omega
    exact .inl ⟨this, by rw [this]; rfl⟩
  · have : bitN p d = 1 := by omega
    exact .inr ⟨this, by rw [this]; rfl⟩

set_option maxHeartbeats 1000000 in
set_option maxRecDepth 100000 in
theorem half_cells {w : World} {b : Nat} {vl vr : Value} {p : ByteArray} {d : Nat} (c0 : w.cell? ⟨b, 0, none⟩ = some vl) (c1 : w.cell? ⟨b, 1, none⟩ = some vr) (hp : p.size = 32) (hd : d < 256) :
    Calls Tryz.prog 126 #[.pointer (some ⟨b, 0, none⟩), .string p, .int .i64 (d : Int)] w fun e w' => e = .returned (if bitB p d then vr else vl) ∧ w' = w := by
  have hb := sha_bit p d (by omega) (by omega) w
  rcases bit_of p d with ⟨e0, e1⟩ | ⟨e0, e1⟩
  all_goals
    rw [e0] at hb
    rw [e1]
    simp only [Bool.false_eq_true, ↓reduceIte, Int.natCast_zero, Int.natCast_one] at hb ⊢
    have H := Lib.hid hb
    clear hb e0 e1 hp hd
    go_enter Tryz.func126, Tryz.ntmps126
    go_wp2_with fail
    refine H.out.mono ?_
    rintro e w' ⟨rfl, rfl⟩
    go_wp2_with fail
    go_ret
    exact ⟨rfl, rfl⟩
/-- The half is the same, whatever has been made since. -/
theorem half_base {B : Nat → Prop} {w w1 : World} {v : Value} {l r : Tr} {p : ByteArray} {d : Nat} (h : NodeAt B w v (.node l r)) (f : Fr No w w1) (hp : p.size = 32) (hd : d < 256) :
    Calls Tryz.prog 126 #[v, .string p, .int .i64 (d : Int)] w1 fun e w' => (∃ u, e = .returned u ∧ NodeAt B w u (if bitB p d then r else l)) ∧ w' = w1 := by
  obtain ⟨b, vl, vr, rfl, _, h3, h4, h5⟩ := h
  refine (half_cells (f.cell (blk_cell h3 0) (fun f => f)) (f.cell (blk_cell h3 1) (fun f => f)) hp hd).mono ?_
  rintro e w' ⟨rfl, rfl⟩
  refine ⟨⟨_, rfl, ?_⟩, rfl⟩
  cases bitB p d
  · exact h4
  · exact h5
theorem half_ok {B : Nat → Prop} {w : World} {v : Value} {l r : Tr} {p : ByteArray} {d : Nat} (h : NodeAt B w v (.node l r)) (hp : p.size = 32) (hd : d < 256) :
    Calls Tryz.prog 126 #[v, .string p, .int .i64 (d : Int)] w fun e w' => (∃ u, e = .returned u ∧ NodeAt B w u (if bitB p d then r else l)) ∧ w' = w := half_base h (Fr.refl _ _) hp hd

set_option maxHeartbeats 1000000 in
set_option maxRecDepth 100000 in
theorem with_ok {B : Nat → Prop} {w : World} {v vx : Value} {l r x : Tr} {p : ByteArray} {d : Nat} (h : NodeAt B w v (.node l r)) (hx : NodeAt B w vx x) (hp : p.size = 32) (hd : d < 256) (hk : KAt w) (hB : ∀ i, w.heap.size ≤ i → B i) (fl : l.Full) (fr : r.Full) (fx : x.Full) (hn : l.len + r.len + x.len ≤ 1000000) :
    Calls Tryz.prog 228 #[v, .string p, .int .i64 (d : Int), vx] w fun e w' => ∃ u, e = .returned u ∧ NodeAt B w' u (if bitB p d then Tr.join l x else Tr.join x r) ∧ Fr No w w' := by
  obtain ⟨b, vl, vr, rfl, _, h3, h4, h5⟩ := h
  have c0 := blk_cell h3 0
  have c1 := blk_cell h3 1
  simp at c0 c1
  have hb := sha_bit p d (by omega) (by omega) w
  have hj1 := join_ok hx h5 hk hB fx fr (by omega)
  have hj2 := join_ok h4 hx hk hB fl fx (by omega)
  rcases bit_of p d with ⟨e0, e1⟩ | ⟨e0, e1⟩
  · rw [e0] at hb
    rw [e1]
    simp only [Bool.false_eq_true, ↓reduceIte, Int.natCast_zero, Int.natCast_one] at hb ⊢
    have H := Lib.hid (And.intro hb hj1)
    clear hb hj1 hj2 h3 h4 h5 e0 e1 hp hd hx hk hB hn
    go_enter Tryz.func228, Tryz.ntmps228
    go_wp2_with fail
    refine H.out.1.mono ?_
    rintro e w' ⟨rfl, rfl⟩
    go_wp2_with fail
    refine H.out.2.mono ?_
    rintro e w1 ⟨u, rfl, hu, hf⟩
    have HU := Lib.hid (And.intro hu hf)
    clear hu hf
    go_wp2_with fail
    go_ret
    exact ⟨_, rfl, HU.out.1, HU.out.2⟩
  · rw [e0] at hb
    rw [e1]
    simp only [Bool.false_eq_true, ↓reduceIte, Int.natCast_zero, Int.natCast_one] at hb ⊢
    have H := Lib.hid (And.intro hb hj2)
    clear hb hj1 hj2 h3 h4 h5 e0 e1 hp hd hx hk hB hn
    go_enter Tryz.func228, Tryz.ntmps228
    go_wp2_with fail
    refine H.out.1.mono ?_
    rintro e w' ⟨rfl, rfl⟩
    go_wp2_with fail
    refine H.out.2.mono ?_
    rintro e w1 ⟨u, rfl, hu, hf⟩
    have HU := Lib.hid (And.intro hu hf)
    clear hu hf
    go_wp2_with fail
    go_ret
    exact ⟨_, rfl, HU.out.1, HU.out.2⟩

set_option maxHeartbeats 1000000 in
set_option maxRecDepth 100000 in
theorem halves_not {B : Nat → Prop} {w : World} {v : Value} {t : Tr} (h : NodeAt B w v t) (ht : t.isNil = true ∨ t.single = true) :
    Calls Tryz.prog 129 #[v] w fun e w' => e = .returned (.tuple #[.pointer none, .pointer none, .bool false]) ∧ w' = w := by
  have hs := single_ok h
  rcases ht with ht | ht
  · obtain rfl := h.nil_iff.2 ht
    clear hs h ht
    go_enter Tryz.func129, Tryz.ntmps129
    go_wp2_with fail
    go_ret3
    exact ⟨rfl, rfl⟩
  · rw [ht] at hs
    obtain ⟨b, rfl⟩ := h.ptr (by cases t <;> first | rfl | cases ht)
    have H := Lib.hid hs
    clear hs h ht
    go_enter Tryz.func129, Tryz.ntmps129
    go_wp2_with fail
    refine H.out.mono ?_
    rintro e w' ⟨rfl, rfl⟩
    go_wp2_with fail
    go_ret3
    exact ⟨rfl, rfl⟩
theorem halves_node {B : Nat → Prop} {w : World} {v : Value} {l r : Tr} (h : NodeAt B w v (.node l r)) :
    Calls Tryz.prog 129 #[v] w fun e w' => (∃ vl vr, e = .returned (.tuple #[vl, vr, .bool true]) ∧ NodeAt B w vl l ∧ NodeAt B w vr r) ∧ Fr No w w' := by
  have hs := single_ok h
  rw [show (Tr.node l r).single = false from rfl] at hs
  obtain ⟨b, vl, vr, rfl, _, h3, h4, h5⟩ := h
  have c0 := blk_cell h3 0
  have c1 := blk_cell h3 1
  simp at c0 c1
  have H := Lib.hid (And.intro hs (And.intro h4 h5))
  clear hs h3 h4 h5
  go_enter Tryz.func129, Tryz.ntmps129
  go_wp2_with fail
  refine H.out.1.mono ?_
  rintro e w' ⟨rfl, rfl⟩
  go_wp2_with fail
  go_quiet (fail)
  go_wp2_with fail
  go_ret3
  exact ⟨⟨_, _, rfl, H.out.2.1, H.out.2.2⟩, (Fr.refl No _).drewN _⟩
end Go.Proofs.YtlmhphejgahfbaaGreatDoor
/- The program's tree: Leaf, Get, apart, put, del. -/
set_option linter.unusedVariables false
set_option linter.unusedSimpArgs false
namespace Go.Proofs.YtlmhphejgahfbaaGreatDoor
open Go.RowKit

/-! ### Plain -/
def Tr.dp : Tr → Nat
  | .nil => 0
  | .leaf _ _ => 0
  | .node l r => max l.dp r.dp + 1
/-- Each key stands where its bits lead. -/
def Tr.Placed (h : ByteArray → Nat → Bool) : Tr → Nat → Prop
  | .nil, _ => True
  | .leaf _ _, _ => True
  | .node l r, d => (∀ k ∈ l.keys, h k d = false) ∧ (∀ k ∈ r.keys, h k d = true) ∧ l.Placed h (d + 1) ∧ r.Placed h (d + 1)
theorem apart_full (h : ByteArray → Nat → Bool) (n : Nat) (a b : Itm) (d : Nat) : (apart h n a b d).Full ∧ (apart h n a b d).len = 2 := by
  have j : ∀ x y : Itm, (Tr.join (.leaf x.1 x.2) (.leaf y.1 y.2)).Full ∧ (Tr.join (.leaf x.1 x.2) (.leaf y.1 y.2)).len = 2 := fun x y =>
    ⟨Tr.Full.join trivial trivial, by rw [Tr.join_len (.leaf x.1 x.2) (.leaf y.1 y.2) trivial trivial]; rfl⟩
  induction n generalizing d with
  | zero =>
    unfold apart
    split <;> exact j _ _
  | succ n ih =>
    obtain ⟨i1, i2⟩ := ih (d + 1)
    unfold apart
    split
    · split
      · exact ⟨Tr.Full.join trivial i1, by rw [Tr.join_len .nil _ trivial i1, i2]; rfl⟩
      · exact ⟨Tr.Full.join i1 trivial, by rw [Tr.join_len _ .nil i1 trivial, i2]; rfl⟩
    · split <;> exact j _ _
theorem put_full (h : ByteArray → Nat → Bool) (s : ByteArray → ByteArray → Bool) {t : Tr} (f : t.Full) (x : Itm) (d : Nat) : (t.put h s x d).Full ∧ (t.put h s x d).len ≤ t.len + 1 := by
  induction t generalizing d with
  | nil => exact ⟨trivial, Nat.le_refl _⟩
  | leaf k r =>
    unfold Tr.put
    split
    · exact ⟨trivial, by show 1 ≤ 1 + 1; omega⟩
    · obtain ⟨i1, i2⟩ := apart_full h (255 - d) (k, r) x d
      exact ⟨i1, by rw [i2]; exact Nat.le_refl 2⟩
  | node l r ihl ihr =>
    unfold Tr.put
    split
    · obtain ⟨i1, i2⟩ := ihr f.2.1 (d + 1)
      exact ⟨Tr.Full.join f.1 i1, by rw [Tr.join_len _ _ f.1 i1]; show _ ≤ l.len + r.len + 1; omega⟩
    · obtain ⟨i1, i2⟩ := ihl f.1 (d + 1)
      exact ⟨Tr.Full.join i1 f.2.1, by rw [Tr.join_len _ _ i1 f.2.1]; show _ ≤ l.len + r.len + 1; omega⟩
theorem del_full (h : ByteArray → Nat → Bool) {t : Tr} (f : t.Full) (k : ByteArray) (d : Nat) : (t.del h k d).Full ∧ (t.del h k d).len ≤ t.len := by
  induction t generalizing d with
  | nil => exact ⟨trivial, Nat.le_refl _⟩
  | leaf k' r =>
    unfold Tr.del
    split
    · exact ⟨trivial, Nat.zero_le _⟩
    · exact ⟨trivial, Nat.le_refl _⟩
  | node l r ihl ihr =>
    unfold Tr.del
    split
    · obtain ⟨i1, i2⟩ := ihr f.2.1 (d + 1)
      exact ⟨Tr.Full.join f.1 i1, by rw [Tr.join_len _ _ f.1 i1]; show _ ≤ l.len + r.len; omega⟩
    · obtain ⟨i1, i2⟩ := ihl f.1 (d + 1)
      exact ⟨Tr.Full.join i1 f.2.1, by rw [Tr.join_len _ _ i1 f.2.1]; show _ ≤ l.len + r.len; omega⟩

/-! ### Leaf -/
set_option maxHeartbeats 1000000 in
set_option maxRecDepth 100000 in
theorem leafm_not {B : Nat → Prop} {w : World} {v : Value} {t : Tr} (h : NodeAt B w v t) (ht : t.single = false) :
    Calls Tryz.prog 132 #[v] w fun e w' => e = .returned (.tuple #[.string ⟨#[]⟩, .slice none 0 0, .bool false]) ∧ w' = w := by
  have hs := single_ok h
  rw [ht] at hs
  have H := Lib.hid hs
  clear hs h ht
  go_enter Tryz.func132, Tryz.ntmps132
  go_wp2_with fail
  refine H.out.mono ?_
  rintro e w' ⟨rfl, rfl⟩
  go_wp2_with fail
  go_ret3
  exact ⟨rfl, rfl⟩
set_option maxHeartbeats 2000000 in
set_option maxRecDepth 100000 in
theorem leafm_ok {B : Nat → Prop} {w : World} {v : Value} {k : ByteArray} {r : Bs} (h : NodeAt B w v (.leaf k r)) (hr : r.length ≤ 100000) :
    Calls Tryz.prog 132 #[v] w fun e w' => ∃ A c, e = .returned (.tuple #[.string k, .slice A r.length c, .bool true]) ∧ Ow Ty.u8 5 w' (fun i => w.heap.size ≤ i) (.slice A r.length c) r ∧ Fr No w w' := by
  have hs := single_ok h
  rw [show (Tr.leaf k r).single = true from rfl] at hs
  obtain ⟨b, A, c, rfl, _, h3, h4⟩ := h
  have c3 := blk_cell h3 3
  have c4 := blk_cell h3 4
  simp at c3 c4
  have H := Lib.hid (And.intro hs (And.intro h3 (And.intro h4 hr)))
  have HC := Lib.hid fun (w1 : World) (f : Fr No w w1) => clone_ok (c := c) (h4.fr0 f) rfl (by omega)
  clear hs h3 h4 hr
  have g0 := Fr.refl No w
  go_enter Tryz.func132, Tryz.ntmps132
  go_wp2_with fail
  refine H.out.1.mono ?_
  rintro e w' ⟨rfl, rfl⟩
  go_wp2_with fail
  go_region_held3 (fun w' => w'.cell? ⟨b, 3, none⟩ = some (.string k) ∧ w'.cell? ⟨b, 4, none⟩ = some (.slice A r.length c))
    (first
      | exact ⟨c3, c4⟩
      | exact ⟨q3, q4⟩)
    ((go_at_call 100; refine (HC.out _ (by repeat (first | assumption | exact Fr.refl _ _ | apply Fr.drew | apply Fr.drewN))).mono ?_; rintro e1 w1 ⟨A1, c1, rfl, hO, hf⟩
      have g1 : Fr No w' w1 := Fr.trans (by repeat (first | assumption | exact Fr.refl _ _ | apply Fr.drew | apply Fr.drewN)) (hf.mono fun _ _ f => f.elim)
      have q3 := g1.cell c3 (fun f => f)
      have q4 := g1.cell c4 (fun f => f)
      have HO := Lib.hid hO
      clear hO hf))
  all_goals
    go_wp2_with fail
    go_ret3
    exact ⟨A1, c1, rfl, HO.out, g1⟩
end Go.Proofs.YtlmhphejgahfbaaGreatDoor
/- The program's tree: Get, apart. -/
set_option linter.unusedVariables false
set_option linter.unusedSimpArgs false
namespace Go.Proofs.YtlmhphejgahfbaaGreatDoor
open Go.RowKit

/-- What is answered of a key. -/
def GotPost (w : World) : Option Bs → Ending → World → Prop
  | none, e, w' => e = .returned (.tuple #[.slice none 0 0, .bool false]) ∧ Fr No w w'
  | some r, e, w' => ∃ A c, e = .returned (.tuple #[.slice A r.length c, .bool true]) ∧ Ow Ty.u8 5 w' (fun i => w.heap.size ≤ i) (.slice A r.length c) r ∧ Fr No w w'

set_option maxHeartbeats 2000000 in
set_option maxRecDepth 100000 in
theorem get_ok {B : Nat → Prop} {w : World} {v : Value} {t : Tr} (key : ByteArray) (h : NodeAt B w v t) (hky : key.size ≤ 1000) (hk : KAt w) (hd : t.dp ≤ 256) (hr : ∀ r, t.get hbit key 0 = some r → r.length ≤ 100000) :
    Calls Tryz.prog 68 #[v, .string key] w (GotPost w (t.get hbit key 0)) := by
  have kc := run_txt
  obtain ⟨W, hW⟩ : ∃ W, W = txtW w key := ⟨_, rfl⟩
  have hfW : Fr No w W := by rw [hW]; exact txt_fr _ _
  have hs := sum_ok (w := W) (c := txtC w key) (txt_rd' (w := w) (s := key) (by rw [← hW]; exact Fr.refl No W) (by omega)) (hk.fr0 hfW) (by rw [keyB_len]; omega)
  rw [keyB_len, hW] at hs
  have hpath : sha (keyB key) = sumK key := rfl
  rw [hpath] at hs
  obtain ⟨g, hg⟩ : ∃ g, t.get hbit key 0 = g := ⟨_, rfl⟩
  rw [hg] at hr ⊢
  have H := Lib.hid (And.intro hs (And.intro (hW ▸ hfW) (And.intro h (And.intro hg hr))))
  obtain ⟨p, hp⟩ : ∃ p, sumK key = p := ⟨_, rfl⟩
  have HP := Lib.hid hp
  have hdp := Lib.hid hd
  rw [hp] at H
  clear hs hfW h hk hW hky hr hg hpath hp hd
  go_enter Tryz.func68, Tryz.ntmps68
  go_wp2_with fail
  refine H.out.1.mono ?_
  rintro e w1 ⟨rfl, hf1⟩
  have H1 := Lib.hid (H.out.2.1.trans (hf1.mono fun _ _ f => f.elim))
  clear hf1
  go_wp2_with fail
  go_loop [0, 7] (fun n i => ∃ (d : Nat) (u : Tr), i = .int .i64 (d : Int) ∧ Hid (NodeAt B w1 n u ∧ u.dp + d ≤ 256 ∧ u.get hbit key d = g)) (fun _ i => 256 - (intOf i).toNat)
  case atStart => exact ⟨0, t, rfl, H.out.2.2.1.fr0 H1.out, hdp.out, H.out.2.2.2.1⟩
  case round =>
    obtain ⟨d, u, rfl, I⟩ := hrel
    obtain ⟨hu, hud, hug⟩ := I.out
    clear I
    have hsz : p.size = 32 := by rw [← HP.out]; exact sha_size _
    have hsg := single_ok hu
    cases u with
    | nil =>
      obtain rfl : _ = Value.pointer none := hu
      have hgn : g = none := hug.symm
      have HG := Lib.hid hgn
      clear hsg hud hug hgn hsz
      go_wp2_with fail
      go_ret2
      rw [HG.out]
      exact ⟨rfl, H1.out⟩
    | leaf k r =>
      rw [show (Tr.leaf k r).single = true from rfl] at hsg
      obtain ⟨b, A, c, rfl, _, h3, h4⟩ := hu
      have c3 := blk_cell h3 3
      have c4 := blk_cell h3 4
      simp at c3 c4
      have hug' : (if k = key then some r else none) = g := hug
      have HS := Lib.hid hsg
      by_cases hkk : k = key
      · rw [if_pos hkk] at hug'
        have hcl := clone_ok (c := c) h4 rfl (by have := H.out.2.2.2.2 r hug'.symm; omega)
        have HG := Lib.hid (And.intro hug' hcl)
        clear hsg h3 h4 hud hug hug' hsz hcl
        subst hkk
        go_wp2_with fail
        refine HS.out.mono ?_
        rintro e w' ⟨rfl, rfl⟩
        go_wp2_with fail
        refine HG.out.2.mono ?_
        rintro e w2 ⟨A2, c2, rfl, hO, hf2⟩
        have HO := Lib.hid (And.intro hO (H1.out.trans (hf2.mono fun _ _ f => f.elim)))
        clear hO hf2
        go_wp2_with fail
        go_ret2
        rw [← HG.out.1]
        exact ⟨A2, c2, rfl, HO.out.1.mono fun i hi _ => Nat.le_trans H1.out.size hi, HO.out.2⟩
      · rw [if_neg hkk] at hug'
        have HG := Lib.hid hug'
        have hne : (k.toList == key.toList) = false := by rw [beq_toList]; exact decide_eq_false hkk
        clear hsg h3 h4 hud hug hug' hsz
        go_wp2_with fail
        refine HS.out.mono ?_
        rintro e w' ⟨rfl, rfl⟩
        go_wp2_with fail
        go_ret2
        rw [← HG.out]
        exact ⟨rfl, H1.out⟩
    | node l r =>
      rw [show (Tr.node l r).single = false from rfl] at hsg
      have hd : d < 256 := by simp only [Tr.dp] at hud; omega
      have hhf := half_ok hu hsz hd
      obtain ⟨b, rfl⟩ := hu.ptr rfl
      have hug' : (if hbit key d then r.get hbit key (d + 1) else l.get hbit key (d + 1)) = g := hug
      have hdi : (d : Int) < 256 := by omega
      have hd0 : (0 : Int) ≤ (d : Int) := Int.natCast_nonneg _
      have hnext : (if bitB p d then r else l).dp + (d + 1) ≤ 256 ∧ (if bitB p d then r else l).get hbit key (d + 1) = g := by
        have e : hbit key d = bitB p d := by rw [← HP.out]; rfl
        rw [e] at hug'
        simp only [Tr.dp] at hud
        cases hb : bitB p d
        · rw [hb] at hug'; exact ⟨by simp only [Bool.false_eq_true, ↓reduceIte]; omega, by simpa using hug'⟩
        · rw [hb] at hug'; exact ⟨by simp only [↓reduceIte]; omega, by simpa using hug'⟩
      have HS := Lib.hid (And.intro hsg (And.intro hhf hnext))
      clear hsg hhf hnext hug hug' hud hu hsz hd
      go_wp2_with fail
      refine HS.out.1.mono ?_
      rintro e w' ⟨rfl, rfl⟩
      go_wp2_with fail
      refine HS.out.2.1.mono ?_
      rintro e w' ⟨⟨u2, rfl, hu2⟩, rfl⟩
      have HU := Lib.hid hu2
      clear hu2
      go_wp2_with fail
      go_round
      case rel => exact ⟨d + 1, _, by go_num, HU.out, HS.out.2.2.1, HS.out.2.2.2⟩
      case measure => simp [intOf]; omega

set_option maxHeartbeats 4000000 in
set_option maxRecDepth 100000 in
theorem apart_step {B : Nat → Prop} {va vb : Value} {a b : Itm} {T : Tr} (af : T.Full) (al : T.len = 2) {d : Nat} (hd : d < 256) {w : World} (ha : NodeAt B w va (.leaf a.1 a.2)) (hb : NodeAt B w vb (.leaf b.1 b.2)) (hk : KAt w) (hB : ∀ i, w.heap.size ≤ i → B i)
    (hih : hbit a.1 d = hbit b.1 d → ∀ w1, Fr No w w1 → Calls Tryz.prog 229 #[va, vb, .int .i64 ((d : Int) + 1)] w1 fun e w' => ∃ u, e = .returned u ∧ NodeAt B w' u T ∧ Fr No w1 w') :
    Calls Tryz.prog 229 #[va, vb, .int .i64 (d : Int)] w fun e w' => ∃ u, e = .returned u ∧ NodeAt B w' u (if hbit a.1 d = hbit b.1 d then (if hbit a.1 d then Tr.join .nil T else Tr.join T .nil)
      else if hbit a.1 d then Tr.join (.leaf b.1 b.2) (.leaf a.1 a.2) else Tr.join (.leaf a.1 a.2) (.leaf b.1 b.2)) ∧ Fr No w w' := by
  have hj := fun (x y : Tr) (vx vy : Value) (w1 : World) (f : Fr No w w1) (hx : NodeAt B w1 vx x) (hy : NodeAt B w1 vy y) (fx : x.Full) (fy : y.Full) (hl : x.len + y.len ≤ 1000000) => join_ok hx hy (hk.fr0 f) (fun i hi => hB i (Nat.le_trans f.size hi)) fx fy hl
  have hbit' := fun (p : ByteArray) (hp : p.size = 32) (w : World) => sha_bit p d (by omega) (by omega) w
  obtain ⟨pa, hpa⟩ : ∃ p, sumK a.1 = p := ⟨_, rfl⟩
  obtain ⟨pb, hpb⟩ : ∃ p, sumK b.1 = p := ⟨_, rfl⟩
  have hsa : pa.size = 32 := by rw [← hpa]; exact sha_size _
  have hsb : pb.size = 32 := by rw [← hpb]; exact sha_size _
  have hba : hbit a.1 d = bitB pa d := by rw [← hpa]; rfl
  have hbb : hbit b.1 d = bitB pb d := by rw [← hpb]; rfl
  have ha' := ha
  have hb' := hb
  obtain ⟨ba, Aa, ca, rfl, _, h3, _⟩ := ha
  obtain ⟨bb, Ab, cb, rfl, _, h4, _⟩ := hb
  have c1 := blk_cell h3 2
  have c2 := blk_cell h4 2
  rw [hpa] at c1
  rw [hpb] at c2
  simp at c1 c2
  have hd1 : IntKind.i64.wrap ((d : Int) + 1) = (d : Int) + 1 := IntWalk.i64_in _ (by omega)
  have HB := Lib.hid hbit'
  have HS := Lib.hid (And.intro hsa hsb)
  have HI := Lib.hid hih
  have HJ := Lib.hid hj
  have HN := Lib.hid (And.intro ha' hb')
  have hd0 : (0 : Int) ≤ (d : Int) := Int.natCast_nonneg _
  have hd2 : (d : Int) < 256 := by omega
  obtain ⟨R, hap⟩ : ∃ R, R = if hbit a.1 d = hbit b.1 d then (if hbit a.1 d then Tr.join .nil T else Tr.join T .nil)
    else if hbit a.1 d then Tr.join (.leaf b.1 b.2) (.leaf a.1 a.2) else Tr.join (.leaf a.1 a.2) (.leaf b.1 b.2) := ⟨_, rfl⟩
  rw [← hap]
  clear hbit' hih hj ha' hb' h3 h4 hk hB hpa hpb hsa hsb hd
  rcases bit_of pa d with ⟨ea, fa⟩ | ⟨ea, fa⟩ <;> rcases bit_of pb d with ⟨eb, fb⟩ | ⟨eb, fb⟩
  all_goals
    rw [hba, hbb, fa, fb] at hap
    rw [hba, hbb, fa, fb] at HI
    have ea' : (bitN pa d : Int) = (bitN pa d : Int) := rfl
    rw [hap]
    have HA := Lib.hid (And.intro ea (And.intro eb (And.intro af al)))
    clear hap fa fb hba hbb ea' ea eb af al
  · have k1 := fun w => HB.out pa HS.out.1 w
    have k2 := fun w => HB.out pb HS.out.2 w
    simp only [HA.out.1, HA.out.2.1, Int.natCast_zero, Int.natCast_one] at k1 k2
    have K1 := Lib.hid k1
    have K2 := Lib.hid k2
    clear k1 k2
    go_enter Tryz.func229, Tryz.ntmps229
    go_wp2_with fail
    go_quiet ((first | (go_at_call_of 130 (Value.string pa); exact Calls.quiet_of_same (K1.out _)) | (go_at_call_of 130 (Value.string pb); exact Calls.quiet_of_same (K2.out _))))
    have HF := Lib.hid ((Fr.refl No w).drewN nq)
    go_wp2_with fail
    refine (HI.out trivial _ HF.out).mono ?_
    rintro e w1 ⟨u, rfl, hu, hf⟩
    have HU := Lib.hid (And.intro hu (HF.out.trans (hf.mono fun _ _ f => f.elim)))
    clear hu hf
    go_wp2_with fail
    refine (HJ.out _ .nil _ (.pointer none) _ HU.out.2 HU.out.1 rfl HA.out.2.2.1 trivial (by rw [HA.out.2.2.2]; decide)).mono ?_
    rintro e w2 ⟨u2, rfl, hu2, hf2⟩
    have HV := Lib.hid (And.intro hu2 (HU.out.2.trans (hf2.mono fun _ _ f => f.elim)))
    clear hu2 hf2
    go_wp2_with fail
    go_ret
    exact ⟨_, rfl, HV.out.1, HV.out.2⟩
  · have k1 := fun w => HB.out pa HS.out.1 w
    have k2 := fun w => HB.out pb HS.out.2 w
    simp only [HA.out.1, HA.out.2.1, Int.natCast_zero, Int.natCast_one] at k1 k2
    have K1 := Lib.hid k1
    have K2 := Lib.hid k2
    clear k1 k2
    go_enter Tryz.func229, Tryz.ntmps229
    go_wp2_with fail
    go_quiet ((first | (go_at_call_of 130 (Value.string pa); exact Calls.quiet_of_same (K1.out _)) | (go_at_call_of 130 (Value.string pb); exact Calls.quiet_of_same (K2.out _))))
    have HF := Lib.hid ((Fr.refl No w).drewN nq)
    go_wp2_with fail
    refine (HJ.out _ _ _ _ _ HF.out (HN.out.1.fr0 HF.out) (HN.out.2.fr0 HF.out) trivial trivial (by show 1 + 1 ≤ 1000000; decide)).mono ?_
    rintro e w2 ⟨u2, rfl, hu2, hf2⟩
    have HV := Lib.hid (And.intro hu2 (HF.out.trans (hf2.mono fun _ _ f => f.elim)))
    clear hu2 hf2
    go_wp2_with fail
    go_ret
    exact ⟨_, rfl, HV.out.1, HV.out.2⟩
  · have k1 := fun w => HB.out pa HS.out.1 w
    have k2 := fun w => HB.out pb HS.out.2 w
    simp only [HA.out.1, HA.out.2.1, Int.natCast_zero, Int.natCast_one] at k1 k2
    have K1 := Lib.hid k1
    have K2 := Lib.hid k2
    clear k1 k2
    go_enter Tryz.func229, Tryz.ntmps229
    go_wp2_with fail
    go_quiet ((first | (go_at_call_of 130 (Value.string pa); exact Calls.quiet_of_same (K1.out _)) | (go_at_call_of 130 (Value.string pb); exact Calls.quiet_of_same (K2.out _))))
    have HF := Lib.hid ((Fr.refl No w).drewN nq)
    go_wp2_with fail
    refine (HJ.out _ _ _ _ _ HF.out (HN.out.2.fr0 HF.out) (HN.out.1.fr0 HF.out) trivial trivial (by show 1 + 1 ≤ 1000000; decide)).mono ?_
    rintro e w2 ⟨u2, rfl, hu2, hf2⟩
    have HV := Lib.hid (And.intro hu2 (HF.out.trans (hf2.mono fun _ _ f => f.elim)))
    clear hu2 hf2
    go_wp2_with fail
    go_ret
    exact ⟨_, rfl, HV.out.1, HV.out.2⟩
  · have k1 := fun w => HB.out pa HS.out.1 w
    have k2 := fun w => HB.out pb HS.out.2 w
    simp only [HA.out.1, HA.out.2.1, Int.natCast_zero, Int.natCast_one] at k1 k2
    have K1 := Lib.hid k1
    have K2 := Lib.hid k2
    clear k1 k2
    go_enter Tryz.func229, Tryz.ntmps229
    go_wp2_with fail
    go_quiet ((first | (go_at_call_of 130 (Value.string pa); exact Calls.quiet_of_same (K1.out _)) | (go_at_call_of 130 (Value.string pb); exact Calls.quiet_of_same (K2.out _))))
    have HF := Lib.hid ((Fr.refl No w).drewN nq)
    go_wp2_with fail
    refine (HI.out trivial _ HF.out).mono ?_
    rintro e w1 ⟨u, rfl, hu, hf⟩
    have HU := Lib.hid (And.intro hu (HF.out.trans (hf.mono fun _ _ f => f.elim)))
    clear hu hf
    go_wp2_with fail
    refine (HJ.out .nil _ (.pointer none) _ _ HU.out.2 rfl HU.out.1 trivial HA.out.2.2.1 (by rw [HA.out.2.2.2]; decide)).mono ?_
    rintro e w2 ⟨u2, rfl, hu2, hf2⟩
    have HV := Lib.hid (And.intro hu2 (HU.out.2.trans (hf2.mono fun _ _ f => f.elim)))
    clear hu2 hf2
    go_wp2_with fail
    go_ret
    exact ⟨_, rfl, HV.out.1, HV.out.2⟩

theorem apart_ok {B : Nat → Prop} {va vb : Value} {a b : Itm} (n : Nat) {d : Nat} (hn : n + d = 255) (hi : ∃ i, d ≤ i ∧ i < 256 ∧ hbit a.1 i ≠ hbit b.1 i) {w : World} (ha : NodeAt B w va (.leaf a.1 a.2)) (hb : NodeAt B w vb (.leaf b.1 b.2)) (hk : KAt w) (hB : ∀ i, w.heap.size ≤ i → B i) :
    Calls Tryz.prog 229 #[va, vb, .int .i64 (d : Int)] w fun e w' => ∃ u, e = .returned u ∧ NodeAt B w' u (apart hbit n a b d) ∧ Fr No w w' := by
  obtain ⟨i, hi1, hi2, hi3⟩ := hi
  induction n generalizing d w with
  | zero =>
    obtain rfl : i = d := by omega
    have := apart_step (T := .node (.leaf a.1 a.2) (.leaf b.1 b.2)) ⟨trivial, trivial, by show 0 < 1 + 1; decide⟩ rfl hi2 ha hb hk hB (fun e => absurd e hi3)
    rw [if_neg hi3] at this
    exact this
  | succ n ih =>
    obtain ⟨af, al⟩ := apart_full hbit n a b (d + 1)
    exact apart_step (T := apart hbit n a b (d + 1)) af al (by omega) ha hb hk hB (fun heq w1 f => ih (d := d + 1) (by omega) (ha.fr0 f) (hb.fr0 f) (hk.fr0 f) (fun i hi => hB i (Nat.le_trans f.size hi)) (by
      rcases Nat.lt_or_ge d i with h | h
      · exact h
      · obtain rfl : i = d := by omega
        exact absurd heq hi3))
end Go.Proofs.YtlmhphejgahfbaaGreatDoor
/- The program's tree: put, Put, del, Del. -/
set_option linter.unusedVariables false
set_option linter.unusedSimpArgs false
namespace Go.Proofs.YtlmhphejgahfbaaGreatDoor
open Go.RowKit

set_option maxHeartbeats 2000000 in
set_option maxRecDepth 100000 in
theorem put_nil {w : World} {vx : Value} (d : Int) : Calls Tryz.prog 197 #[.pointer none, vx, .int .i64 d] w fun e w' => e = .returned vx ∧ Fr No w w' := by
  go_enter Tryz.func197, Tryz.ntmps197
  go_wp2_with fail
  go_quiet (fail)
  go_wp2_with fail
  go_ret
  exact ⟨rfl, (Fr.refl No w).drewN nq⟩
set_option maxHeartbeats 2000000 in
set_option maxRecDepth 100000 in
theorem put_same {w : World} {b bx : Nat} {p : ByteArray} (d : Int) (hc : w.cell? ⟨b, 2, none⟩ = some (.string p)) (hx : w.cell? ⟨bx, 2, none⟩ = some (.string p))
    (hs : ∀ w1, Fr No w w1 → Calls Tryz.prog 125 #[.pointer (some ⟨b, 0, none⟩)] w1 fun e w' => e = .returned (.bool true) ∧ w' = w1) :
    Calls Tryz.prog 197 #[.pointer (some ⟨b, 0, none⟩), .pointer (some ⟨bx, 0, none⟩), .int .i64 d] w fun e w' => e = .returned (.pointer (some ⟨bx, 0, none⟩)) ∧ Fr No w w' := by
  have HS := Lib.hid hs
  clear hs
  go_enter Tryz.func197, Tryz.ntmps197
  go_wp2_with fail
  go_quiet ((go_at_call 125; exact Calls.quiet_of_same (HS.out _ (by repeat (first | assumption | exact Fr.refl _ _ | apply Fr.drew | apply Fr.drewN)))))
  go_wp2_with fail
  go_ret
  exact ⟨rfl, (Fr.refl No w).drewN nq⟩
set_option maxHeartbeats 2000000 in
set_option maxRecDepth 100000 in
theorem put_apart {w : World} {b bx : Nat} {p q : ByteArray} {d : Int} {P : Value → World → Prop} (hc : w.cell? ⟨b, 2, none⟩ = some (.string p)) (hx : w.cell? ⟨bx, 2, none⟩ = some (.string q)) (hne : p ≠ q)
    (hs : ∀ w1, Fr No w w1 → Calls Tryz.prog 125 #[.pointer (some ⟨b, 0, none⟩)] w1 fun e w' => e = .returned (.bool true) ∧ w' = w1)
    (ha : ∀ w1, Fr No w w1 → Calls Tryz.prog 229 #[.pointer (some ⟨b, 0, none⟩), .pointer (some ⟨bx, 0, none⟩), .int .i64 d] w1 fun e w' => ∃ u, e = .returned u ∧ P u w' ∧ Fr No w1 w') :
    Calls Tryz.prog 197 #[.pointer (some ⟨b, 0, none⟩), .pointer (some ⟨bx, 0, none⟩), .int .i64 d] w fun e w' => ∃ u, e = .returned u ∧ P u w' ∧ Fr No w w' := by
  have hne' : (p.toList == q.toList) = false := by rw [beq_toList]; exact decide_eq_false hne
  have HS := Lib.hid (And.intro hs ha)
  clear hs ha hne
  go_enter Tryz.func197, Tryz.ntmps197
  go_wp2_with fail
  go_quiet ((go_at_call 125; exact Calls.quiet_of_same (HS.out.1 _ (by repeat (first | assumption | exact Fr.refl _ _ | apply Fr.drew | apply Fr.drewN)))))
  have HF := Lib.hid ((Fr.refl No w).drewN nq)
  go_wp2_with fail
  refine (HS.out.1 _ HF.out).mono ?_
  rintro e w1 ⟨rfl, rfl⟩
  go_wp2_with fail
  refine (HS.out.2 _ HF.out).mono ?_
  rintro e w1 ⟨u, rfl, hu, hf⟩
  have HU := Lib.hid (And.intro hu (HF.out.trans (hf.mono fun _ _ f => f.elim)))
  clear hu hf
  go_wp2_with fail
  go_ret
  exact ⟨_, rfl, HU.out.1, HU.out.2⟩
set_option maxHeartbeats 2000000 in
set_option maxRecDepth 100000 in
theorem put_node {B : Nat → Prop} {w : World} {b bx : Nat} {p : ByteArray} {d : Int} {C X R : Tr} (hx : w.cell? ⟨bx, 2, none⟩ = some (.string p)) (hd0 : 0 ≤ d) (hd1 : d < 256)
    (hs : ∀ w1, Fr No w w1 → Calls Tryz.prog 125 #[.pointer (some ⟨b, 0, none⟩)] w1 fun e w' => e = .returned (.bool false) ∧ w' = w1)
    (hh : ∀ w1, Fr No w w1 → Calls Tryz.prog 126 #[.pointer (some ⟨b, 0, none⟩), .string p, .int .i64 d] w1 fun e w' => (∃ u, e = .returned u ∧ NodeAt B w u C) ∧ w' = w1)
    (hi : ∀ w1 u, Fr No w w1 → NodeAt B w u C → Calls Tryz.prog 197 #[u, .pointer (some ⟨bx, 0, none⟩), .int .i64 (d + 1)] w1 fun e w' => ∃ u', e = .returned u' ∧ NodeAt B w' u' X ∧ Fr No w1 w')
    (hw : ∀ w1 ux, Fr No w w1 → NodeAt B w1 ux X → Calls Tryz.prog 228 #[.pointer (some ⟨b, 0, none⟩), .string p, .int .i64 d, ux] w1 fun e w' => ∃ u, e = .returned u ∧ NodeAt B w' u R ∧ Fr No w1 w') :
    Calls Tryz.prog 197 #[.pointer (some ⟨b, 0, none⟩), .pointer (some ⟨bx, 0, none⟩), .int .i64 d] w fun e w' => ∃ u, e = .returned u ∧ NodeAt B w' u R ∧ Fr No w w' := by
  have HS := Lib.hid (And.intro hs (And.intro hh (And.intro hi hw)))
  have hdw : IntKind.i64.wrap (d + 1) = d + 1 := IntWalk.i64_in _ (by omega)
  clear hs hh hi hw
  go_enter Tryz.func197, Tryz.ntmps197
  go_wp2_with fail
  go_quiet ((go_at_call 125; exact Calls.quiet_of_same (HS.out.1 _ (by repeat (first | assumption | exact Fr.refl _ _ | apply Fr.drew | apply Fr.drewN)))))
  have HF := Lib.hid ((Fr.refl No w).drewN nq)
  go_wp2_with fail
  refine (HS.out.1 _ HF.out).mono ?_
  rintro e w1 ⟨rfl, rfl⟩
  go_wp2_with fail
  obtain ⟨W, hW⟩ : ∃ W, W = w.drewN nq := ⟨_, rfl⟩
  rw [← hW] at HF ⊢
  have c0 := HF.out.cell hx (fun f => f)
  clear hW
  have g0 := HF.out
  go_region_held3 (fun w' => w'.cell? ⟨bx, 2, none⟩ = some (.string p))
    (first
      | exact c0
      | exact q0)
    (first
      | (go_at_call 126; refine (HS.out.2.1 _ (by repeat (first | assumption | exact Fr.refl _ _ | apply Fr.drew | apply Fr.drewN))).mono ?_; rintro e1 w1 ⟨⟨u2, rfl, hu2⟩, rfl⟩
         have HU := Lib.hid hu2
         clear hu2)
      | (go_at_call 197; refine (HS.out.2.2.1 _ _ (by repeat (first | assumption | exact Fr.refl _ _ | apply Fr.drew | apply Fr.drewN)) HU.out).mono ?_; rintro e3 w3 ⟨u3, rfl, hu3, hf3⟩
         have g3 : Fr No w w3 := Fr.trans (by repeat (first | assumption | exact Fr.refl _ _ | apply Fr.drew | apply Fr.drewN)) (hf3.mono fun _ _ f => f.elim)
         have q0 := g3.cell hx (fun f => f)
         have HX := Lib.hid hu3
         clear hu3 hf3)
      | (go_at_call 228; refine (HS.out.2.2.2 _ _ (by repeat (first | assumption | exact Fr.refl _ _ | apply Fr.drew | apply Fr.drewN)) (HX.out.fr0 (by repeat (first | assumption | exact Fr.refl _ _ | apply Fr.drew | apply Fr.drewN)))).mono ?_; rintro e4 w4 ⟨u4, rfl, hu4, hf4⟩
         have g4 : Fr No w w4 := Fr.trans (by repeat (first | assumption | exact Fr.refl _ _ | apply Fr.drew | apply Fr.drewN)) (hf4.mono fun _ _ f => f.elim)
         have q0 := g4.cell hx (fun f => f)
         have HY := Lib.hid hu4
         clear hu4 hf4))
  all_goals
    go_wp2_with fail
    go_ret
    exact ⟨_, rfl, HY.out.fr0 (by repeat (first | assumption | exact Fr.refl _ _ | apply Fr.drew | apply Fr.drewN)), (by repeat (first | assumption | exact Fr.refl _ _ | apply Fr.drew | apply Fr.drewN))⟩

theorem leaf_cell {B : Nat → Prop} {w : World} {b : Nat} {k : ByteArray} {r : Bs} (h : NodeAt B w (.pointer (some ⟨b, 0, none⟩)) (.leaf k r)) : w.cell? ⟨b, 2, none⟩ = some (.string (sumK k)) := by
  obtain ⟨b', A, c, e, _, h3, _⟩ := h
  obtain rfl : b = b' := by simpa using e
  exact blk_cell h3 2
theorem leaf_key {B : Nat → Prop} {w : World} {b : Nat} {k : ByteArray} {r : Bs} (h : NodeAt B w (.pointer (some ⟨b, 0, none⟩)) (.leaf k r)) : w.cell? ⟨b, 3, none⟩ = some (.string k) := by
  obtain ⟨b', A, c, e, _, h3, _⟩ := h
  obtain rfl : b = b' := by simpa using e
  exact blk_cell h3 3
theorem put_ok' {B : Nat → Prop} {bx : Nat} {x : Itm} {t : Tr} {w : World} {v : Value} {d : Nat} (h : NodeAt B w v t) (hx : NodeAt B w (.pointer (some ⟨bx, 0, none⟩)) (.leaf x.1 x.2)) (hk : KAt w) (hB : ∀ i, w.heap.size ≤ i → B i) (hf : t.Full) (hl : t.len ≤ 400000) (hdp : t.dp + d ≤ 256)
    (hpl : t.Placed hbit d) (hsep : ∀ k ∈ t.keys, sumK k ≠ sumK x.1 → ∃ i, d ≤ i ∧ i < 256 ∧ hbit k i ≠ hbit x.1 i) :
    Calls Tryz.prog 197 #[v, .pointer (some ⟨bx, 0, none⟩), .int .i64 (d : Int)] w fun e w' => ∃ u, e = .returned u ∧ NodeAt B w' u (t.put hbit sameK x d) ∧ Fr No w w' := by
  induction t generalizing v d w with
  | nil =>
    obtain rfl : v = _ := h
    refine (put_nil (d : Int)).mono ?_
    rintro e w' ⟨rfl, hf'⟩
    exact ⟨_, rfl, hx.fr0 hf', hf'⟩
  | leaf k r =>
    have hn := h
    obtain ⟨b, A, c, rfl, _, h3, h4⟩ := h
    have c2 := leaf_cell hn
    have hs : ∀ w1, Fr No w w1 → Calls Tryz.prog 125 #[.pointer (some ⟨b, 0, none⟩)] w1 fun e w' => e = .returned (.bool true) ∧ w' = w1 := fun w1 f => single_ok (hn.fr0 f)
    unfold Tr.put
    by_cases he : sumK k = sumK x.1
    · rw [show sameK k x.1 = true from decide_eq_true he, if_pos rfl]
      rw [he] at c2
      refine (put_same (d : Int) c2 (leaf_cell hx) hs).mono ?_
      rintro e w' ⟨rfl, hf'⟩
      exact ⟨_, rfl, hx.fr0 hf', hf'⟩
    · rw [show sameK k x.1 = false from decide_eq_false he, if_neg (by decide)]
      have hi := hsep k (by simp [Tr.keys]) he
      have hd : d < 256 := by obtain ⟨i, h1, h2, _⟩ := hi; omega
      exact put_apart c2 (leaf_cell hx) he hs fun w1 f => apart_ok (a := (k, r)) (b := x) (255 - d) (by omega) hi (hn.fr0 f) (hx.fr0 f) (hk.fr0 f) (fun i hi => hB i (Nat.le_trans f.size hi))
  | node l r ihl ihr =>
    have hn := h
    obtain ⟨hp1, hp2, hp3, hp4⟩ := hpl
    obtain ⟨f1, f2, f3⟩ := hf
    simp only [Tr.dp] at hdp
    have hd : d < 256 := by omega
    obtain ⟨b, rfl⟩ := h.ptr rfl
    have hlen : l.len + r.len ≤ 400000 := hl
    have hsx : (sumK x.1).size = 32 := sha_size _
    have hkeys : (Tr.node l r).keys = l.keys ++ r.keys := rfl
    rw [hkeys] at hsep
    unfold Tr.put
    have more : ∀ c : Bool, hbit x.1 d = c → ∀ K : List ByteArray, (∀ k ∈ K, k ∈ l.keys ++ r.keys) → (∀ k ∈ K, hbit k d = c) → ∀ k ∈ K, sumK k ≠ sumK x.1 → ∃ i, d + 1 ≤ i ∧ i < 256 ∧ hbit k i ≠ hbit x.1 i := by
      intro c hc K hK hKc k hkK hne
      obtain ⟨i, h1, h2, h3⟩ := hsep k (hK k hkK) hne
      refine ⟨i, ?_, h2, h3⟩
      rcases Nat.lt_or_ge d i with h | h
      · exact h
      · obtain rfl : i = d := by omega
        exact absurd ((hKc k hkK).trans hc.symm) h3
    have hs : ∀ w1, Fr No w w1 → Calls Tryz.prog 125 #[.pointer (some ⟨b, 0, none⟩)] w1 fun e w' => e = .returned (.bool false) ∧ w' = w1 := fun w1 f => single_ok (hn.fr0 f)
    have hbx : hbit x.1 d = bitB (sumK x.1) d := rfl
    cases hc : hbit x.1 d with
    | false =>
      rw [if_neg (by decide)]
      obtain ⟨i1, i2⟩ := put_full hbit sameK f1 x (d + 1)
      refine put_node (C := l) (X := l.put hbit sameK x (d + 1)) (leaf_cell hx) (by omega) (by omega) hs (fun w1 f => ?_) (fun w1 u f hu => ?_) (fun w1 ux f hux => ?_)
      · have := half_base hn f hsx hd
        rw [← hbx, hc] at this
        exact this
      · exact ihl (d := d + 1) (hu.fr0 f) (hx.fr0 f) (hk.fr0 f) (fun i hi => hB i (Nat.le_trans f.size hi)) f1 (by omega) (by omega) hp3 (more false hc _ (fun k hk => by simp [hk]) hp1)
      · have := with_ok (d := d) (hn.fr0 f) hux hsx hd (hk.fr0 f) (fun i hi => hB i (Nat.le_trans f.size hi)) f1 f2 i1 (by omega)
        rw [← hbx, hc] at this
        exact this
    | true =>
      rw [if_pos rfl]
      obtain ⟨i1, i2⟩ := put_full hbit sameK f2 x (d + 1)
      refine put_node (C := r) (X := r.put hbit sameK x (d + 1)) (leaf_cell hx) (by omega) (by omega) hs (fun w1 f => ?_) (fun w1 u f hu => ?_) (fun w1 ux f hux => ?_)
      · have := half_base hn f hsx hd
        rw [← hbx, hc] at this
        exact this
      · exact ihr (d := d + 1) (hu.fr0 f) (hx.fr0 f) (hk.fr0 f) (fun i hi => hB i (Nat.le_trans f.size hi)) f2 (by omega) (by omega) hp4 (more true hc _ (fun k hk => by simp [hk]) hp2)
      · have := with_ok (d := d) (hn.fr0 f) hux hsx hd (hk.fr0 f) (fun i hi => hB i (Nat.le_trans f.size hi)) f1 f2 i1 (by omega)
        rw [← hbx, hc] at this
        exact this
end Go.Proofs.YtlmhphejgahfbaaGreatDoor
