/- Texts of this claim, one behind the other: Spec12, Sha, Sha2, Sha3. -/
import Derived.Test.YtlmhphejgahfbaaGreatDoorMrowledgernil1
import Derived.Test.YtlmhphejgahfbaaGreatDoorProg
import Derived.Deep.QuietTactic
import Derived.BigQuiet
import Derived.Deep.RegionHeld3
import Derived.IntWalk
import Derived.StillTailTactics
import Derived.BigRegion
import Derived.Deep.RegionLaw
/- Layer 12 (chain): versions, and what is done with them, as plain functions. -/
set_option linter.unusedVariables false
namespace Go.Proofs.YtlmhphejgahfbaaGreatDoor

abbrev Bs := List UInt8
/-- A row, or that it is gone, from a number on. -/
structure Ver where
  at_ : Int
  row : Bs
  gone : Bool
/-- Versions, the oldest first, and the greatest number. -/
structure Chn where
  l : List Ver
  last : Int

namespace Chn
def empty : Chn := ⟨[], 0⟩
def put (c : Chn) (a : Int) (row : Bs) (gone : Bool) : Chn := ⟨c.l ++ [⟨a, row, gone⟩], a⟩
/-- How many aren't above a number (they rise). -/
def seen (c : Chn) (a : Int) : Nat := (c.l.takeWhile fun v => decide (v.at_ ≤ a)).length
def get (c : Chn) (a : Int) : Option Bs :=
  match c.l[c.seen a - 1]? with
  | some v => if c.seen a = 0 then none else if v.gone then none else some v.row
  | none => none
/-- How many are let go. -/
def cut (c : Chn) (a : Int) : Nat :=
  match c.l[c.seen a - 1]? with
  | some v => if c.seen a = 0 then 0 else if v.gone then c.seen a else c.seen a - 1
  | none => 0
def trim (c : Chn) (a : Int) : Chn := ⟨c.l.drop (c.cut a), c.last⟩
/-- Numbers rise, and none is above the greatest. -/
def Ok (c : Chn) : Prop := c.l.Pairwise (fun x y => x.at_ < y.at_) ∧ ∀ v ∈ c.l, v.at_ ≤ c.last
end Chn

def tVer : Ty Ver := Ty.iso (Ty.pair (Ty.int .i64) (Ty.pair (Ty.slice Ty.u8) Ty.bool)) fun x => (x.at_, x.row, x.gone)
theorem tVer_open {w : World} {F : Nat → Prop} {x : Ver} {cs : List Value} (h : tVer.K w F x cs) :
    ∃ A c, cs = [.int .i64 x.at_, .slice A x.row.length c, .bool x.gone] ∧ x.row.length ≤ c ∧ Rd Ty.u8 w F A x.row := by
  obtain ⟨_, _, rfl, rfl, _, _, rfl, ⟨A, c, rfl, h1, h2⟩, rfl⟩ := h
  exact ⟨A, c, rfl, h1, h2⟩
theorem tVer_mk {w : World} {F : Nat → Prop} {a : Int} {r : Bs} {g : Bool} {A : Option Addr} {c : Nat} (h1 : r.length ≤ c) (h2 : Rd Ty.u8 w F A r) :
    tVer.K w F ⟨a, r, g⟩ [.int .i64 a, .slice A r.length c, .bool g] :=
  ⟨_, [_, _], rfl, rfl, [_], [_], rfl, ⟨A, c, rfl, h1, h2⟩, rfl⟩
end Go.Proofs.YtlmhphejgahfbaaGreatDoor
/- SHA-256: words, and the functions on them: plain functions, and what the program's small functions compute. -/
set_option linter.unusedVariables false
set_option linter.unusedSimpArgs false
namespace Go.Proofs.YtlmhphejgahfbaaGreatDoor
open Go.RowKit

abbrev W32 := BitVec 32
/-- A word's number. -/
def U (x : W32) : Int := (x.toNat : Int)
theorem U_nonneg (x : W32) : 0 ≤ U x := Int.natCast_nonneg _
theorem U_lt (x : W32) : U x < 4294967296 := by have := x.isLt; unfold U; omega
theorem U_inj {x y : W32} (h : U x = U y) : x = y := BitVec.eq_of_toNat_eq (by unfold U at h; omega)
theorem wrap_u32 (x : Int) : IntKind.u32.wrap x = x % 4294967296 := by rfl
theorem U_ofInt (x : W32) : BitVec.ofInt 32 (U x) = x := by
  apply BitVec.eq_of_toNat_eq
  rw [BitVec.toNat_ofInt]
  unfold U
  have := x.isLt
  omega
theorem U_wrap (x : W32) : IntKind.u32.wrap (U x) = U x := by
  rw [wrap_u32]; have := U_nonneg x; have := U_lt x; omega
theorem U_add (x y : W32) : IntKind.u32.wrap (U x + U y) = U (x + y) := by
  rw [wrap_u32]; unfold U; rw [BitVec.toNat_add]; omega
theorem U_back (r : W32) : IntKind.u32.wrap (r.toNat : Int) = U r := U_wrap r
theorem U_xor (x y : W32) : bits .xor .u32 (U x) (U y) = U (x ^^^ y) := by
  show IntKind.u32.wrap (((BitVec.ofInt 32 (U x) ^^^ BitVec.ofInt 32 (U y) : W32)).toNat : Int) = _
  rw [U_ofInt, U_ofInt, U_back]
theorem U_and (x y : W32) : bits .and .u32 (U x) (U y) = U (x &&& y) := by
  show IntKind.u32.wrap (((BitVec.ofInt 32 (U x) &&& BitVec.ofInt 32 (U y) : W32)).toNat : Int) = _
  rw [U_ofInt, U_ofInt, U_back]
theorem U_or (x y : W32) : bits .or .u32 (U x) (U y) = U (x ||| y) := by
  show IntKind.u32.wrap (((BitVec.ofInt 32 (U x) ||| BitVec.ofInt 32 (U y) : W32)).toNat : Int) = _
  rw [U_ofInt, U_ofInt, U_back]
theorem U_shl (x : W32) (n : Nat) : IntKind.u32.wrap (U x * 2 ^ n) = U (x <<< n) := by
  rw [wrap_u32]
  unfold U
  rw [BitVec.toNat_shiftLeft, Nat.shiftLeft_eq, Int.natCast_emod, Int.natCast_mul, Int.natCast_pow]
  rfl
theorem U_shr (x : W32) (n : Nat) : (U x).fdiv (2 ^ n) = U (x >>> n) := by
  unfold U
  rw [BitVec.toNat_ushiftRight, Nat.shiftRight_eq_div_pow, Int.fdiv_eq_ediv_of_nonneg _ (Int.pow_nonneg (by omega)), Int.natCast_ediv, Int.natCast_pow]
  rfl
/-- To the right. -/
def rr (x : W32) (n : Nat) : W32 := (x >>> n) ||| (x <<< (32 - n))
theorem rr_or (x : W32) (n : Nat) : (x <<< (32 - n)) ||| (x >>> n) = rr x n := BitVec.or_comm _ _

/-- The turns that occur. -/
def turns : List (Int × Nat) := [(-2, 2), (-6, 6), (-7, 7), (-11, 11), (-13, 13), (-17, 17), (-18, 18), (-19, 19), (-22, 22), (-25, 25)]
theorem rot_gen (x y : W32) (k s u : Int) (n m : Nat) (h1 : bits .and .u64 (IntKind.u64.wrap k) 31 = s) (h2 : IntKind.u64.wrap (32 - s) = u) (hs : Op.shift .shl .u32 (U x) .u64 s = pure (.int .u32 (U (x <<< n)))) (ht : Op.shift .shr .u32 (U x) .u64 u = pure (.int .u32 (U (x >>> m))))
    (h3 : bits .or .u32 (U (x <<< n)) (U (x >>> m)) = U y) (w : World) : Calls Tryz.prog 204 #[.int .u32 (U x), .int .i64 k] w fun e w' => e = .returned (.int .u32 (U y)) ∧ w' = w := by
  go_enter Tryz.func204, Tryz.ntmps204
  go_wp2
  go_ret
  exact ⟨rfl, rfl⟩
theorem shift_shl (x : W32) (s : Int) (n : Nat) (h : s = n) (hn : n ≤ 32) : Op.shift .shl .u32 (U x) .u64 s = pure (.int .u32 (U (x <<< n))) := by
  subst h
  have : min ((n : Int).toNat) IntKind.u32.bits = n := by rw [Int.toNat_natCast]; exact Nat.min_eq_left hn
  simp only [Op.shift, this, U_shl]
  rw [if_neg (by omega)]
theorem shift_shr (x : W32) (s : Int) (n : Nat) (h : s = n) (hn : n ≤ 32) : Op.shift .shr .u32 (U x) .u64 s = pure (.int .u32 (U (x >>> n))) := by
  subst h
  have : min ((n : Int).toNat) IntKind.u32.bits = n := by rw [Int.toNat_natCast]; exact Nat.min_eq_left hn
  simp only [Op.shift, this, U_shr]
  rw [if_neg (by omega)]
theorem rot_ok (x : W32) (k : Int) (r : Nat) (h : (k, r) ∈ turns) (w : World) : Calls Tryz.prog 204 #[.int .u32 (U x), .int .i64 k] w fun e w' => e = .returned (.int .u32 (U (rr x r))) ∧ w' = w := by
  have hc : bits .and .u64 (IntKind.u64.wrap k) 31 = ((32 - r : Nat) : Int) ∧ IntKind.u64.wrap (32 - ((32 - r : Nat) : Int)) = (r : Int) ∧ r ≤ 32 := by
    revert h
    have : ∀ p ∈ turns, bits .and .u64 (IntKind.u64.wrap p.1) 31 = ((32 - p.2 : Nat) : Int) ∧ IntKind.u64.wrap (32 - ((32 - p.2 : Nat) : Int)) = (p.2 : Int) ∧ p.2 ≤ 32 := by decide
    exact this (k, r)
  exact rot_gen x _ k _ _ (32 - r) r hc.1 hc.2.1 (shift_shl x _ _ rfl (by omega)) (shift_shr x _ _ rfl hc.2.2) (by rw [U_or, rr_or]) w

theorem spread_ok (x l : W32) (a b : Int) (m n : Nat) (ha : (-a, m) ∈ turns) (hb : (-b, n) ∈ turns) (h1 : IntKind.i64.wrap (-a) = -a) (h2 : IntKind.i64.wrap (-b) = -b) (w : World) : Calls Tryz.prog 203 #[.int .u32 (U x), .int .i64 a, .int .i64 b, .int .u32 (U l)] w fun e w' => e = .returned (.int .u32 (U (rr x m ^^^ rr x n ^^^ l))) ∧ w' = w := by
  have H1 := Lib.hid (rot_ok x (-a) m ha)
  have H2 := Lib.hid (rot_ok x (-b) n hb)
  have h3 := U_xor (rr x m) (rr x n)
  have h4 := U_xor (rr x m ^^^ rr x n) l
  clear ha hb
  go_enter Tryz.func203, Tryz.ntmps203
  go_wp2_with fail
  refine (H1.out _).mono ?_
  rintro e w' ⟨rfl, rfl⟩
  go_wp2_with fail
  refine (H2.out _).mono ?_
  rintro e w' ⟨rfl, rfl⟩
  go_wp2_with fail
  go_ret
  exact ⟨rfl, rfl⟩
end Go.Proofs.YtlmhphejgahfbaaGreatDoor
/- SHA-256: the ring of words. -/
set_option linter.unusedVariables false
set_option linter.unusedSimpArgs false
namespace Go.Proofs.YtlmhphejgahfbaaGreatDoor
open Go.RowKit

/-- Words in an array's cells, from a place on. -/
structure Words (w : World) (b o n : Nat) (R : Nat → W32) : Prop where
  blk : ∃ cs tt, w.heap[b]? = some (.cells cs tt (0, 0)) ∧ o + n ≤ cs.size ∧ ∀ j, j < n → cs[o + j]? = some (.int .u32 (U (R j)))
theorem Words.lt {w : World} {b o n : Nat} {R : Nat → W32} (h : Words w b o n R) : b < w.heap.size := by obtain ⟨cs, tt, hb, _⟩ := h.blk; exact blk_lt hb
theorem Words.cell {w : World} {b o n : Nat} {R : Nat → W32} (h : Words w b o n R) {j : Nat} (hj : j < n) : w.cell? ⟨b, o + j, none⟩ = some (.int .u32 (U (R j))) := by
  obtain ⟨cs, tt, hb, _, hc⟩ := h.blk
  rw [blk_cell hb]; exact hc j hj
theorem Words.free {w : World} {b o n : Nat} {R : Nat → W32} (h : Words w b o n R) (j : Nat) : w.frozen? ⟨b, j, none⟩ = false := by
  obtain ⟨cs, tt, hb, _, _⟩ := h.blk
  exact blk_frozen hb j
theorem Words.fr {S : Nat → Prop} {w w' : World} {b o n : Nat} {R : Nat → W32} (h : Words w b o n R) (f : Fr S w w') (hn : ¬ S b) : Words w' b o n R := by
  obtain ⟨cs, tt, hb, h1, hc⟩ := h.blk
  exact ⟨cs, tt, f.blk hb hn, h1, hc⟩
def upd (R : Nat → W32) (i : Nat) (v : W32) : Nat → W32 := fun j => if j = i then v else R j
theorem Words.fr0 {w w' : World} {b o n : Nat} {R : Nat → W32} (h : Words w b o n R) (f : Fr No w w') : Words w' b o n R := h.fr f (fun f => f)
theorem Words.set {w : World} {b o n : Nat} {R : Nat → W32} (h : Words w b o n R) {i : Nat} (hi : i < n) (v : W32) : Words (w.setCell ⟨b, o + i, none⟩ (.int .u32 (U v))) b o n (upd R i v) := by
  obtain ⟨cs, tt, hb, h1, hc⟩ := h.blk
  refine ⟨_, tt, blk_set hb _ _, by simpa using h1, fun j hj => ?_⟩
  rw [Array.getElem?_setIfInBounds]
  unfold upd
  by_cases e : j = i
  · subst e; rw [if_pos rfl, if_pos (by omega), if_pos rfl]
  · rw [if_neg (by omega), if_neg e]; exact hc j hj

/-- The new word. -/
def sg0 (x : W32) : W32 := rr x 7 ^^^ rr x 18 ^^^ (x >>> 3)
def sg1 (x : W32) : W32 := rr x 17 ^^^ rr x 19 ^^^ (x >>> 10)
def nextW (R : Nat → W32) (i : Nat) : W32 := R (i % 16) + ((sg0 (R ((i + 1) % 16)) + R ((i + 9) % 16)) + sg1 (R ((i + 14) % 16)))

set_option maxHeartbeats 1000000 in
set_option maxRecDepth 100000 in
theorem word_old {w : World} {b : Nat} {R : Nat → W32} {i : Nat} (h : Words w b 0 16 R) (hi : i < 16) : Calls Tryz.prog 205 #[.pointer (some ⟨b, 0, none⟩), .int .i64 i] w fun e w' => e = .returned (.int .u32 (U (R i))) ∧ w' = w := by
  have c := h.cell hi
  rw [Nat.zero_add] at c
  have hi0 : (0 : Int) ≤ (i : Int) := Int.natCast_nonneg _
  have hi1 : (i : Int) < 16 := by omega
  have hm : (i : Int) % 16 = (i : Int) := by omega
  have ha : (⟨b, 0, none⟩ : Addr).add i = ⟨b, i, none⟩ := add0 b i
  clear h
  go_enter Tryz.func205, Tryz.ntmps205
  go_wp2
  go_ret
  exact ⟨rfl, rfl⟩

set_option maxHeartbeats 1000000 in
set_option maxRecDepth 100000 in
theorem word_new {w : World} {b : Nat} {R : Nat → W32} {i : Nat} (h : Words w b 0 16 R) (hi : 16 ≤ i) (hi2 : i < 64) : Calls Tryz.prog 205 #[.pointer (some ⟨b, 0, none⟩), .int .i64 i] w fun e w' => e = .returned (.int .u32 (U (nextW R i))) ∧ Words w' b 0 16 (upd R (i % 16) (nextW R i)) ∧ Fr (fun k => k = b) w w' := by
  have hi0 : (16 : Int) ≤ (i : Int) := by omega
  have hi1 : (i : Int) < 64 := by omega
  obtain ⟨p, hp⟩ : ∃ p, i % 16 = p := ⟨_, rfl⟩
  obtain ⟨p1, hp1⟩ : ∃ p, (i + 1) % 16 = p := ⟨_, rfl⟩
  obtain ⟨p9, hp9⟩ : ∃ p, (i + 9) % 16 = p := ⟨_, rfl⟩
  obtain ⟨p14, hp14⟩ : ∃ p, (i + 14) % 16 = p := ⟨_, rfl⟩
  have l0 : p < 16 := by omega
  have l1 : p1 < 16 := by omega
  have l9 : p9 < 16 := by omega
  have l14 : p14 < 16 := by omega
  have l0i : (p : Int) < 16 := by omega
  have l1i : (p1 : Int) < 16 := by omega
  have l9i : (p9 : Int) < 16 := by omega
  have l14i : (p14 : Int) < 16 := by omega
  have n0i : (0 : Int) ≤ (p : Int) := by omega
  have n1i : (0 : Int) ≤ (p1 : Int) := by omega
  have n9i : (0 : Int) ≤ (p9 : Int) := by omega
  have n14i : (0 : Int) ≤ (p14 : Int) := by omega
  have m0 : (i : Int) % 16 = (p : Int) := by omega
  have m1 : ((i : Int) + 1) % 16 = (p1 : Int) := by omega
  have m9 : ((i : Int) + 9) % 16 = (p9 : Int) := by omega
  have m14 : ((i : Int) + 14) % 16 = (p14 : Int) := by omega
  have s1 : IntKind.i64.wrap ((i : Int) + 1) = (i : Int) + 1 := IntWalk.i64_in _ (by omega)
  have s9 : IntKind.i64.wrap ((i : Int) + 9) = (i : Int) + 9 := IntWalk.i64_in _ (by omega)
  have s14 : IntKind.i64.wrap ((i : Int) + 14) = (i : Int) + 14 := IntWalk.i64_in _ (by omega)
  have t0 : (i : Int).tmod 16 = (p : Int) := by rw [Int.tmod_eq_emod_of_nonneg (by omega)]; exact m0
  have t1 : ((i : Int) + 1).tmod 16 = (p1 : Int) := by rw [Int.tmod_eq_emod_of_nonneg (by omega)]; exact m1
  have t9 : ((i : Int) + 9).tmod 16 = (p9 : Int) := by rw [Int.tmod_eq_emod_of_nonneg (by omega)]; exact m9
  have t14 : ((i : Int) + 14).tmod 16 = (p14 : Int) := by rw [Int.tmod_eq_emod_of_nonneg (by omega)]; exact m14
  have c0 := h.cell l0
  have c1 := h.cell l1
  have c9 := h.cell l9
  have c14 := h.cell l14
  have z0 := h.free p
  rw [Nat.zero_add] at c0 c1 c9 c14
  have a0 := add0 b p
  have a1 := add0 b p1
  have a9 := add0 b p9
  have a14 := add0 b p14
  have H := Lib.hid (And.intro h (And.intro hp (And.intro hp1 (And.intro hp9 hp14))))
  obtain ⟨x0, hx0⟩ : ∃ x, R p = x := ⟨_, rfl⟩
  obtain ⟨x1, hx1⟩ : ∃ x, R p1 = x := ⟨_, rfl⟩
  obtain ⟨x9, hx9⟩ : ∃ x, R p9 = x := ⟨_, rfl⟩
  obtain ⟨x14, hx14⟩ : ∃ x, R p14 = x := ⟨_, rfl⟩
  rw [hx0] at c0
  rw [hx1] at c1
  rw [hx9] at c9
  rw [hx14] at c14
  have HX := Lib.hid (And.intro hx0 (And.intro hx1 (And.intro hx9 hx14)))
  have r3 : (U x1).fdiv (2 ^ 3) = U (x1 >>> 3) := U_shr x1 3
  have q3 := shift_shr x1 3 3 rfl (by decide)
  have q10 := shift_shr x14 10 10 rfl (by decide)
  obtain ⟨y1, hy1⟩ : ∃ y, sg0 x1 = y := ⟨_, rfl⟩
  obtain ⟨y2, hy2⟩ : ∃ y, sg1 x14 = y := ⟨_, rfl⟩
  obtain ⟨v1, hv1⟩ : ∃ v, y1 + x9 = v := ⟨_, rfl⟩
  obtain ⟨v2, hv2⟩ : ∃ v, v1 + y2 = v := ⟨_, rfl⟩
  obtain ⟨v3, hv3⟩ : ∃ v, x0 + v2 = v := ⟨_, rfl⟩
  have d1 := U_add y1 x9
  have d2 := U_add v1 y2
  have d3 := U_add x0 v2
  rw [hv1] at d1
  rw [hv2] at d2
  rw [hv3] at d3
  have HN := Lib.hid (show nextW R i = v3 by unfold nextW; rw [H.out.2.1, H.out.2.2.1, H.out.2.2.2.1, H.out.2.2.2.2, HX.out.1, HX.out.2.1, HX.out.2.2.1, HX.out.2.2.2, hy1, hy2, hv1, hv2, hv3])
  have HS1 := Lib.hid (show ∀ w : World, Calls Tryz.prog 203 #[.int .u32 (U x1), .int .i64 7, .int .i64 18, .int .u32 (U (x1 >>> 3))] w fun e w' => e = .returned (.int .u32 (U y1)) ∧ w' = w by rw [← hy1]; exact spread_ok x1 (x1 >>> 3) 7 18 7 18 (by decide) (by decide) (by decide) (by decide))
  have HS2 := Lib.hid (show ∀ w : World, Calls Tryz.prog 203 #[.int .u32 (U x14), .int .i64 17, .int .i64 19, .int .u32 (U (x14 >>> 10))] w fun e w' => e = .returned (.int .u32 (U y2)) ∧ w' = w by rw [← hy2]; exact spread_ok x14 (x14 >>> 10) 17 19 17 19 (by decide) (by decide) (by decide) (by decide))
  clear hy1 hy2 hv1 hv2 hv3
  clear h hp hp1 hp9 hp14 hx0 hx1 hx9 hx14
  go_enter Tryz.func205, Tryz.ntmps205
  go_wp2_with fail
  go_quiet (fail)
  go_wp2_with fail
  obtain ⟨W, hW⟩ : ∃ W, W = w.drewN nq := ⟨_, rfl⟩
  have HW := Lib.hid (show Fr No w W by rw [hW]; exact (Fr.refl No w).drewN _)
  have c0 := HW.out.cell c0 (fun f => f)
  have c1 := HW.out.cell c1 (fun f => f)
  have c9 := HW.out.cell c9 (fun f => f)
  have c14 := HW.out.cell c14 (fun f => f)
  have z0 := (H.out.1.fr0 HW.out).free p
  rw [← hW]
  clear hW
  go_region_law
    (first
      | (go_simp; go_at_call_of 203 (Value.int IntKind.u32 (U x1)); refine (HS1.out _).mono ?_; rintro e w' ⟨rfl, rfl⟩)
      | (go_simp; go_at_call_of 203 (Value.int IntKind.u32 (U x14)); refine (HS2.out _).mono ?_; rintro e w' ⟨rfl, rfl⟩))
  all_goals
    go_wp2_with fail
    go_ret
    refine ⟨by rw [HN.out]; rfl, ?_, ?_⟩
    · rw [HN.out, H.out.2.1]
      have := (H.out.1.fr0 HW.out).set l0 v3
      rw [Nat.zero_add] at this
      exact this.fr0 ((Fr.refl No _).drew)
    · exact ((HW.out.mono fun _ _ f => f.elim).trans (Fr.set (F := fun k => k = b) (Fr.refl (fun k => k = b) W) ⟨b, p, none⟩ (.inl rfl) _ |>.mono fun k _ e => .inl e)).drew
end Go.Proofs.YtlmhphejgahfbaaGreatDoor
/- SHA-256: a block. -/
set_option linter.unusedVariables false
set_option linter.unusedSimpArgs false
namespace Go.Proofs.YtlmhphejgahfbaaGreatDoor
open Go.RowKit

def b32 (b : UInt8) : W32 := BitVec.ofNat 32 b.toNat
theorem b32_U (b : UInt8) : U (b32 b) = (b.toNat : Int) := by
  have := b.toNat_lt
  unfold U b32
  rw [BitVec.toNat_ofNat]
  omega
/-- One byte more into the ring. -/
def inB1 (R : Nat → W32) (k : Nat) (b : UInt8) : Nat → W32 := upd R (k / 4) ((R (k / 4) <<< 8) ||| b32 b)
def inAll (R : Nat → W32) : Nat → Bs → (Nat → W32)
  | _, [] => R
  | k, b :: p => inAll (inB1 R k b) (k + 1) p
theorem inAll_snoc (R : Nat → W32) (k : Nat) (p : Bs) (b : UInt8) : inAll R k (p ++ [b]) = inB1 (inAll R k p) (k + p.length) b := by
  induction p generalizing R k with
  | nil => rfl
  | cons a p ih => show inAll _ _ (p ++ [b]) = _; rw [ih]; simp only [List.length_cons]; rw [show k + 1 + p.length = k + (p.length + 1) by omega]; rfl
theorem u8_in {w : World} {F : Nat → Prop} {A : Option Addr} {xs : Bs} (h : Rd Ty.u8 w F A xs) {i : Nat} (hi : i < xs.length) : ∃ ad, A = some ad ∧ w.cell? (ad.add i) = some (.int .u8 (xs[i].toNat : Int)) := by
  obtain ⟨ad, c, e, hk, h0, _⟩ := h.get' hi (by decide)
  obtain rfl : c = _ := hk
  refine ⟨ad, e, ?_⟩
  have := h0 _ rfl
  rwa [show i * Ty.u8.sz = i from Nat.mul_one i] at this

/-- One round. -/
def SG1 (e : W32) : W32 := rr e 6 ^^^ rr e 11 ^^^ rr e 25
def SG0 (a : W32) : W32 := rr a 2 ^^^ rr a 13 ^^^ rr a 22
def rT (S : Nat → W32) (k w : W32) : W32 := S 7 + SG1 (S 4) + (S 6 ^^^ (S 4 &&& (S 5 ^^^ S 6))) + k + w
def rU (S : Nat → W32) : W32 := SG0 (S 0) + ((S 0 &&& S 1) ||| (S 2 &&& (S 0 ||| S 1)))
def rStep (S : Nat → W32) (k w : W32) : Nat → W32
  | 0 => rT S k w + rU S
  | 4 => S 3 + rT S k w
  | n + 1 => S n

/-- The rounds' numbers. -/
def KL : List Nat := [1116352408, 1899447441, 3049323471, 3921009573, 961987163, 1508970993, 2453635748, 2870763221, 3624381080, 310598401, 607225278, 1426881987, 1925078388, 2162078206, 2614888103, 3248222580, 3835390401, 4022224774, 264347078, 604807628, 770255983, 1249150122, 1555081692, 1996064986, 2554220882, 2821834349, 2952996808, 3210313671, 3336571891, 3584528711, 113926993, 338241895, 666307205, 773529912, 1294757372, 1396182291, 1695183700, 1986661051, 2177026350, 2456956037, 2730485921, 2820302411, 3259730800, 3345764771, 3516065817, 3600352804, 4094571909, 275423344, 430227734, 506948616, 659060556, 883997877, 958139571, 1322822218, 1537002063, 1747873779, 1955562222, 2024104815, 2227730452, 2361852424, 2428436474, 2756734187, 3204031479, 3329325298]
def Kc (i : Nat) : W32 := BitVec.ofNat 32 (KL.getD i 0)
def KV : Array Value := (KL.map fun (k : Nat) => Value.int .u32 (k : Int)).toArray
theorem KL_lt : ∀ k ∈ KL, k < 4294967296 := by decide
theorem Kc_U {i : Nat} (h : i < 64) : U (Kc i) = ((KL.getD i 0 : Nat) : Int) := by
  have hl : i < KL.length := h
  have := KL_lt _ (List.getElem_mem hl)
  unfold U Kc
  rw [List.getD_eq_getElem?_getD, List.getElem?_eq_getElem hl, BitVec.toNat_ofNat]
  simp only [Option.getD_some]
  omega
/-- The package's table. -/
def KAt (w : World) : Prop := ∀ i, i < 64 → w.cell? ⟨0, i, none⟩ = some (.int .u32 (U (Kc i)))
theorem KAt.fr {S : Nat → Prop} {w w' : World} (h : KAt w) (f : Fr S w w') (hn : ¬ S 0) : KAt w' := fun i hi => f.cell (h i hi) hn
theorem KAt.fr0 {w w' : World} (h : KAt w) (f : Fr No w w') : KAt w' := h.fr f (fun f => f)
theorem KV_at {i : Nat} (h : i < 64) : KV[i]? = some (.int .u32 (U (Kc i))) := by
  rw [Kc_U h]
  unfold KV
  have hl : i < KL.length := h
  rw [List.getElem?_toArray, List.getElem?_map, List.getElem?_eq_getElem hl, List.getD_eq_getElem?_getD, List.getElem?_eq_getElem hl]
  rfl
theorem run_load_K {w : World} (h : KAt w) : (Instr.loadAt 162 (.pointer (some ⟨0, 0, none⟩))).run Tryz.prog w = .ok (.agg KV) w := by
  have h1 := run_loadCells_list (P := Tryz.prog) w ⟨0, 0, none⟩ KV.toList (fun j v hv => by
    have hj : j < 64 := by have := (List.getElem?_eq_some_iff.1 hv).1; exact this
    rw [add0]
    rw [Array.getElem?_toList, KV_at hj] at hv
    rw [h j hj]; exact hv)
  have hl : KV.toList.length = 64 := rfl
  rw [hl] at h1
  simp only [Instr.loadAt, loadVar, Instr.sureAddr, Sem.run_bind, Sem.run_pure, Result.andThen_ok, Tryz.isAgg162, Tryz.sizeOf162, if_true, h1]
theorem run_index_K {i : Nat} (h : i < 64) (w : World) : (Instr.index 162 (.agg KV) (.int .i64 (i : Int))).run Tryz.prog w = .ok (.int .u32 (U (Kc i))) w := by
  have h1 := KV_at h
  have h0 : (0 : Int) ≤ (i : Int) ∧ (i : Int) < ((64 : Nat) : Int) := ⟨Int.natCast_nonneg _, by omega⟩
  simp only [Instr.index, asIntOf, Sem.run_bind, Sem.run_pure, Result.andThen_ok, run_underlying Tryz.underlying162, Tryz.sizeOf161]
  rw [if_pos h0]
  simp [part, Tryz.isAgg161, Tryz.sizeOf161, h1]

def ringNext (R : Nat → W32) (i : Nat) : Nat → W32 := if i < 16 then R else upd R (i % 16) (nextW R i)
def wordAt (R : Nat → W32) (i : Nat) : W32 := if i < 16 then R i else nextW R i
theorem word_ok {w : World} {b : Nat} {R : Nat → W32} {i : Nat} (h : Words w b 0 16 R) (hi : i < 64) : Calls Tryz.prog 205 #[.pointer (some ⟨b, 0, none⟩), .int .i64 i] w fun e w' => e = .returned (.int .u32 (U (wordAt R i))) ∧ Words w' b 0 16 (ringNext R i) ∧ Fr (fun k => k = b) w w' := by
  by_cases h16 : i < 16
  · refine (word_old h h16).mono ?_
    rintro e w' ⟨rfl, rfl⟩
    exact ⟨by unfold wordAt; rw [if_pos h16], by unfold ringNext; rw [if_pos h16]; exact h, Fr.refl _ _⟩
  · refine (word_new h (by omega) hi).mono ?_
    rintro e w' ⟨rfl, h1, h2⟩
    exact ⟨by unfold wordAt; rw [if_neg h16], by unfold ringNext; rw [if_neg h16]; exact h1, h2⟩
end Go.Proofs.YtlmhphejgahfbaaGreatDoor
