/- The program's tree: half, with, Get, Halves, Leaf, apart, put, del. -/
import Derived.Test.YtlgmodeibmdcgaaDoorTrie
set_option linter.unusedVariables false
set_option linter.unusedSimpArgs false
namespace Go.Proofs.YtlgmodeibmdcgaaDoor
open Go.RowKit

theorem bit_of (p : ByteArray) (d : Nat) : bitN p d = 0 ∧ bitB p d = false ∨ bitN p d = 1 ∧ bitB p d = true := by
  have := bitN_lt p d
  unfold bitB
  rcases Nat.lt_or_ge (bitN p d) 1 with h | h
  · have : bitN p d = 0 := by omega
    exact .inl ⟨this, by rw [this]; rfl⟩
  · have : bitN p d = 1 := by omega
    exact .inr ⟨this, by rw [this]; rfl⟩

set_option maxHeartbeats 1000000 in
set_option maxRecDepth 100000 in
theorem half_cells {w : World} {b : Nat} {vl vr : Value} {p : ByteArray} {d : Nat} (c0 : w.cell? ⟨b, 0, none⟩ = some vl) (c1 : w.cell? ⟨b, 1, none⟩ = some vr) (hp : p.size = 32) (hd : d < 256) :
    Calls Tryd.prog 48 #[.pointer (some ⟨b, 0, none⟩), .string p, .int .i64 (d : Int)] w fun e w' => e = .returned (if bitB p d then vr else vl) ∧ w' = w := by
  have hb := sha_bit p d (by omega) (by omega) w
  rcases bit_of p d with ⟨e0, e1⟩ | ⟨e0, e1⟩
  all_goals
    rw [e0] at hb
    rw [e1]
    simp only [Bool.false_eq_true, ↓reduceIte, Int.natCast_zero, Int.natCast_one] at hb ⊢
    have H := Lib.hid hb
    clear hb e0 e1 hp hd
    go_enter Tryd.func48, Tryd.ntmps48
    go_wp2_with fail
    refine H.out.mono ?_
    rintro e w' ⟨rfl, rfl⟩
    go_wp2_with fail
    go_ret
    exact ⟨rfl, rfl⟩
/-- The half is the same, whatever has been made since. -/
theorem half_base {B : Nat} {w w1 : World} {v : Value} {l r : Tr} {p : ByteArray} {d : Nat} (h : NodeAt B w v (.node l r)) (f : Fr No w w1) (hp : p.size = 32) (hd : d < 256) :
    Calls Tryd.prog 48 #[v, .string p, .int .i64 (d : Int)] w1 fun e w' => (∃ u, e = .returned u ∧ NodeAt B w u (if bitB p d then r else l)) ∧ w' = w1 := by
  obtain ⟨b, vl, vr, rfl, _, h3, h4, h5⟩ := h
  refine (half_cells (f.cell (blk_cell h3 0) (fun f => f)) (f.cell (blk_cell h3 1) (fun f => f)) hp hd).mono ?_
  rintro e w' ⟨rfl, rfl⟩
  refine ⟨⟨_, rfl, ?_⟩, rfl⟩
  cases bitB p d
  · exact h4
  · exact h5
theorem half_ok {B : Nat} {w : World} {v : Value} {l r : Tr} {p : ByteArray} {d : Nat} (h : NodeAt B w v (.node l r)) (hp : p.size = 32) (hd : d < 256) :
    Calls Tryd.prog 48 #[v, .string p, .int .i64 (d : Int)] w fun e w' => (∃ u, e = .returned u ∧ NodeAt B w u (if bitB p d then r else l)) ∧ w' = w := half_base h (Fr.refl _ _) hp hd

set_option maxHeartbeats 1000000 in
set_option maxRecDepth 100000 in
theorem with_ok {B : Nat} {w : World} {v vx : Value} {l r x : Tr} {p : ByteArray} {d : Nat} (h : NodeAt B w v (.node l r)) (hx : NodeAt B w vx x) (hp : p.size = 32) (hd : d < 256) (hk : KAt w) (hB : B ≤ w.heap.size) (fl : l.Full) (fr : r.Full) (fx : x.Full) (hn : l.len + r.len + x.len ≤ 1000000) :
    Calls Tryd.prog 53 #[v, .string p, .int .i64 (d : Int), vx] w fun e w' => ∃ u, e = .returned u ∧ NodeAt B w' u (if bitB p d then Tr.join l x else Tr.join x r) ∧ Fr No w w' := by
  obtain ⟨b, vl, vr, rfl, _, h3, h4, h5⟩ := h
  have c0 := blk_cell h3 0
  have c1 := blk_cell h3 1
  simp at c0 c1
  have hb := sha_bit p d (by omega) (by omega) w
  have hj1 := join_ok hx h5 hk hB fx fr (by omega)
  have hj2 := join_ok h4 hx hk hB fl fx (by omega)
  rcases bit_of p d with ⟨e0, e1⟩ | ⟨e0, e1⟩
  · rw [e0] at hb
    rw [e1]
    simp only [Bool.false_eq_true, ↓reduceIte, Int.natCast_zero, Int.natCast_one] at hb ⊢
    have H := Lib.hid (And.intro hb hj1)
    clear hb hj1 hj2 h3 h4 h5 e0 e1 hp hd hx hk hB hn
    go_enter Tryd.func53, Tryd.ntmps53
    go_wp2_with fail
    refine H.out.1.mono ?_
    rintro e w' ⟨rfl, rfl⟩
    go_wp2_with fail
    refine H.out.2.mono ?_
    rintro e w1 ⟨u, rfl, hu, hf⟩
    have HU := Lib.hid (And.intro hu hf)
    clear hu hf
    go_wp2_with fail
    go_ret
    exact ⟨_, rfl, HU.out.1, HU.out.2⟩
  · rw [e0] at hb
    rw [e1]
    simp only [Bool.false_eq_true, ↓reduceIte, Int.natCast_zero, Int.natCast_one] at hb ⊢
    have H := Lib.hid (And.intro hb hj2)
    clear hb hj1 hj2 h3 h4 h5 e0 e1 hp hd hx hk hB hn
    go_enter Tryd.func53, Tryd.ntmps53
    go_wp2_with fail
    refine H.out.1.mono ?_
    rintro e w' ⟨rfl, rfl⟩
    go_wp2_with fail
    refine H.out.2.mono ?_
    rintro e w1 ⟨u, rfl, hu, hf⟩
    have HU := Lib.hid (And.intro hu hf)
    clear hu hf
    go_wp2_with fail
    go_ret
    exact ⟨_, rfl, HU.out.1, HU.out.2⟩

set_option maxHeartbeats 1000000 in
set_option maxRecDepth 100000 in
theorem halves_not {B : Nat} {w : World} {v : Value} {t : Tr} (h : NodeAt B w v t) (ht : t.isNil = true ∨ t.single = true) :
    Calls Tryd.prog 18 #[v] w fun e w' => e = .returned (.tuple #[.pointer none, .pointer none, .bool false]) ∧ w' = w := by
  have hs := single_ok h
  rcases ht with ht | ht
  · obtain rfl := h.nil_iff.2 ht
    clear hs h ht
    go_enter Tryd.func18, Tryd.ntmps18
    go_wp2_with fail
    go_ret3
    exact ⟨rfl, rfl⟩
  · rw [ht] at hs
    obtain ⟨b, rfl⟩ := h.ptr (by cases t <;> first | rfl | cases ht)
    have H := Lib.hid hs
    clear hs h ht
    go_enter Tryd.func18, Tryd.ntmps18
    go_wp2_with fail
    refine H.out.mono ?_
    rintro e w' ⟨rfl, rfl⟩
    go_wp2_with fail
    go_ret3
    exact ⟨rfl, rfl⟩
theorem halves_node {B : Nat} {w : World} {v : Value} {l r : Tr} (h : NodeAt B w v (.node l r)) :
    Calls Tryd.prog 18 #[v] w fun e w' => (∃ vl vr, e = .returned (.tuple #[vl, vr, .bool true]) ∧ NodeAt B w vl l ∧ NodeAt B w vr r) ∧ Fr No w w' := by
  have hs := single_ok h
  rw [show (Tr.node l r).single = false from rfl] at hs
  obtain ⟨b, vl, vr, rfl, _, h3, h4, h5⟩ := h
  have c0 := blk_cell h3 0
  have c1 := blk_cell h3 1
  simp at c0 c1
  have H := Lib.hid (And.intro hs (And.intro h4 h5))
  clear hs h3 h4 h5
  go_enter Tryd.func18, Tryd.ntmps18
  go_wp2_with fail
  refine H.out.1.mono ?_
  rintro e w' ⟨rfl, rfl⟩
  go_wp2_with fail
  go_quiet (fail)
  go_wp2_with fail
  go_ret3
  exact ⟨⟨_, _, rfl, H.out.2.1, H.out.2.2⟩, (Fr.refl No _).drewN _⟩
end Go.Proofs.YtlgmodeibmdcgaaDoor
