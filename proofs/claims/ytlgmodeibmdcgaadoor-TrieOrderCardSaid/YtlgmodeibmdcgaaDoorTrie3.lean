/- The program's tree: Leaf, Get, apart, put, del. -/
import Derived.Test.YtlgmodeibmdcgaaDoorTrie2
set_option linter.unusedVariables false
set_option linter.unusedSimpArgs false
namespace Go.Proofs.YtlgmodeibmdcgaaDoor
open Go.RowKit

/-! ### Plain -/
def Tr.dp : Tr → Nat
  | .nil => 0
  | .leaf _ _ => 0
  | .node l r => max l.dp r.dp + 1
/-- Each key stands where its bits lead. -/
def Tr.Placed (h : ByteArray → Nat → Bool) : Tr → Nat → Prop
  | .nil, _ => True
  | .leaf _ _, _ => True
  | .node l r, d => (∀ k ∈ l.keys, h k d = false) ∧ (∀ k ∈ r.keys, h k d = true) ∧ l.Placed h (d + 1) ∧ r.Placed h (d + 1)
theorem apart_full (h : ByteArray → Nat → Bool) (n : Nat) (a b : Itm) (d : Nat) : (apart h n a b d).Full ∧ (apart h n a b d).len = 2 := by
  have j : ∀ x y : Itm, (Tr.join (.leaf x.1 x.2) (.leaf y.1 y.2)).Full ∧ (Tr.join (.leaf x.1 x.2) (.leaf y.1 y.2)).len = 2 := fun x y =>
    ⟨Tr.Full.join trivial trivial, by rw [Tr.join_len (.leaf x.1 x.2) (.leaf y.1 y.2) trivial trivial]; rfl⟩
  induction n generalizing d with
  | zero =>
    unfold apart
    split <;> exact j _ _
  | succ n ih =>
    obtain ⟨i1, i2⟩ := ih (d + 1)
    unfold apart
    split
    · split
      · exact ⟨Tr.Full.join trivial i1, by rw [Tr.join_len .nil _ trivial i1, i2]; rfl⟩
      · exact ⟨Tr.Full.join i1 trivial, by rw [Tr.join_len _ .nil i1 trivial, i2]; rfl⟩
    · split <;> exact j _ _
theorem put_full (h : ByteArray → Nat → Bool) (s : ByteArray → ByteArray → Bool) {t : Tr} (f : t.Full) (x : Itm) (d : Nat) : (t.put h s x d).Full ∧ (t.put h s x d).len ≤ t.len + 1 := by
  induction t generalizing d with
  | nil => exact ⟨trivial, Nat.le_refl _⟩
  | leaf k r =>
    unfold Tr.put
    split
    · exact ⟨trivial, by show 1 ≤ 1 + 1; omega⟩
    · obtain ⟨i1, i2⟩ := apart_full h (255 - d) (k, r) x d
      exact ⟨i1, by rw [i2]; exact Nat.le_refl 2⟩
  | node l r ihl ihr =>
    unfold Tr.put
    split
    · obtain ⟨i1, i2⟩ := ihr f.2.1 (d + 1)
      exact ⟨Tr.Full.join f.1 i1, by rw [Tr.join_len _ _ f.1 i1]; show _ ≤ l.len + r.len + 1; omega⟩
    · obtain ⟨i1, i2⟩ := ihl f.1 (d + 1)
      exact ⟨Tr.Full.join i1 f.2.1, by rw [Tr.join_len _ _ i1 f.2.1]; show _ ≤ l.len + r.len + 1; omega⟩
theorem del_full (h : ByteArray → Nat → Bool) {t : Tr} (f : t.Full) (k : ByteArray) (d : Nat) : (t.del h k d).Full ∧ (t.del h k d).len ≤ t.len := by
  induction t generalizing d with
  | nil => exact ⟨trivial, Nat.le_refl _⟩
  | leaf k' r =>
    unfold Tr.del
    split
    · exact ⟨trivial, Nat.zero_le _⟩
    · exact ⟨trivial, Nat.le_refl _⟩
  | node l r ihl ihr =>
    unfold Tr.del
    split
    · obtain ⟨i1, i2⟩ := ihr f.2.1 (d + 1)
      exact ⟨Tr.Full.join f.1 i1, by rw [Tr.join_len _ _ f.1 i1]; show _ ≤ l.len + r.len; omega⟩
    · obtain ⟨i1, i2⟩ := ihl f.1 (d + 1)
      exact ⟨Tr.Full.join i1 f.2.1, by rw [Tr.join_len _ _ i1 f.2.1]; show _ ≤ l.len + r.len; omega⟩

/-! ### Leaf -/
set_option maxHeartbeats 1000000 in
set_option maxRecDepth 100000 in
theorem leafm_not {B : Nat} {w : World} {v : Value} {t : Tr} (h : NodeAt B w v t) (ht : t.single = false) :
    Calls Tryd.prog 19 #[v] w fun e w' => e = .returned (.tuple #[.string ⟨#[]⟩, .slice none 0 0, .bool false]) ∧ w' = w := by
  have hs := single_ok h
  rw [ht] at hs
  have H := Lib.hid hs
  clear hs h ht
  go_enter Tryd.func19, Tryd.ntmps19
  go_wp2_with fail
  refine H.out.mono ?_
  rintro e w' ⟨rfl, rfl⟩
  go_wp2_with fail
  go_ret3
  exact ⟨rfl, rfl⟩
set_option maxHeartbeats 2000000 in
set_option maxRecDepth 100000 in
theorem leafm_ok {B : Nat} {w : World} {v : Value} {k : ByteArray} {r : Bs} (h : NodeAt B w v (.leaf k r)) (hr : r.length ≤ 100000) :
    Calls Tryd.prog 19 #[v] w fun e w' => ∃ A c, e = .returned (.tuple #[.string k, .slice A r.length c, .bool true]) ∧ Ow Ty.u8 5 w' (fun i => w.heap.size ≤ i) (.slice A r.length c) r ∧ Fr No w w' := by
  have hs := single_ok h
  rw [show (Tr.leaf k r).single = true from rfl] at hs
  obtain ⟨b, A, c, rfl, _, h3, h4⟩ := h
  have c3 := blk_cell h3 3
  have c4 := blk_cell h3 4
  simp at c3 c4
  have H := Lib.hid (And.intro hs (And.intro h3 (And.intro h4 hr)))
  have HC := Lib.hid fun (w1 : World) (f : Fr No w w1) => clone_ok (c := c) (h4.fr0 f) rfl (by omega)
  clear hs h3 h4 hr
  have g0 := Fr.refl No w
  go_enter Tryd.func19, Tryd.ntmps19
  go_wp2_with fail
  refine H.out.1.mono ?_
  rintro e w' ⟨rfl, rfl⟩
  go_wp2_with fail
  go_region_held3 (fun w' => w'.cell? ⟨b, 3, none⟩ = some (.string k) ∧ w'.cell? ⟨b, 4, none⟩ = some (.slice A r.length c))
    (first
      | exact ⟨c3, c4⟩
      | exact ⟨q3, q4⟩)
    ((go_at_call 42; refine (HC.out _ (by repeat (first | assumption | exact Fr.refl _ _ | apply Fr.drew | apply Fr.drewN))).mono ?_; rintro e1 w1 ⟨A1, c1, rfl, hO, hf⟩
      have g1 : Fr No w' w1 := Fr.trans (by repeat (first | assumption | exact Fr.refl _ _ | apply Fr.drew | apply Fr.drewN)) (hf.mono fun _ _ f => f.elim)
      have q3 := g1.cell c3 (fun f => f)
      have q4 := g1.cell c4 (fun f => f)
      have HO := Lib.hid hO
      clear hO hf))
  all_goals
    go_wp2_with fail
    go_ret3
    exact ⟨A1, c1, rfl, HO.out, g1⟩
end Go.Proofs.YtlgmodeibmdcgaaDoor
