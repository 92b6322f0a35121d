/- SHA-256: words, and the functions on them: plain functions, and what the program's small functions compute. -/
import Derived.Test.YtfaooohenicfbaaGreatDoorProg
import Derived.Test.YtfaooohenicfbaaGreatDoorLib
import Derived.Deep.QuietTactic
import Derived.BigQuiet
import Derived.Deep.RegionHeld3
import Derived.IntWalk
set_option linter.unusedVariables false
set_option linter.unusedSimpArgs false
namespace Go.Proofs.YtfaooohenicfbaaGreatDoor
open Go.RowKit

abbrev W32 := BitVec 32
/-- A word's number. -/
def U (x : W32) : Int := (x.toNat : Int)
theorem U_nonneg (x : W32) : 0 ≤ U x := Int.natCast_nonneg _
theorem U_lt (x : W32) : U x < 4294967296 := by have := x.isLt; unfold U; omega
theorem U_inj {x y : W32} (h : U x = U y) : x = y := BitVec.eq_of_toNat_eq (by unfold U at h; omega)
theorem wrap_u32 (x : Int) : IntKind.u32.wrap x = x % 4294967296 := by rfl
theorem U_ofInt (x : W32) : BitVec.ofInt 32 (U x) = x := by
  apply BitVec.eq_of_toNat_eq
  rw [BitVec.toNat_ofInt]
  unfold U
  have := x.isLt
  omega
theorem U_wrap (x : W32) : IntKind.u32.wrap (U x) = U x := by
  rw [wrap_u32]; have := U_nonneg x; have := U_lt x; omega
theorem U_add (x y : W32) : IntKind.u32.wrap (U x + U y) = U (x + y) := by
  rw [wrap_u32]; unfold U; rw [BitVec.toNat_add]; omega
theorem U_back (r : W32) : IntKind.u32.wrap (r.toNat : Int) = U r := U_wrap r
theorem U_xor (x y : W32) : bits .xor .u32 (U x) (U y) = U (x ^^^ y) := by
  show IntKind.u32.wrap (((BitVec.ofInt 32 (U x) ^^^ BitVec.ofInt 32 (U y) : W32)).toNat : Int) = _
  rw [U_ofInt, U_ofInt, U_back]
theorem U_and (x y : W32) : bits .and .u32 (U x) (U y) = U (x &&& y) := by
  show IntKind.u32.wrap (((BitVec.ofInt 32 (U x) &&& BitVec.ofInt 32 (U y) : W32)).toNat : Int) = _
  rw [U_ofInt, U_ofInt, U_back]
theorem U_or (x y : W32) : bits .or .u32 (U x) (U y) = U (x ||| y) := by
  show IntKind.u32.wrap (((BitVec.ofInt 32 (U x) ||| BitVec.ofInt 32 (U y) : W32)).toNat : Int) = _
  rw [U_ofInt, U_ofInt, U_back]
theorem U_shl (x : W32) (n : Nat) : IntKind.u32.wrap (U x * 2 ^ n) = U (x <<< n) := by
  rw [wrap_u32]
  unfold U
  rw [BitVec.toNat_shiftLeft, Nat.shiftLeft_eq, Int.natCast_emod, Int.natCast_mul, Int.natCast_pow]
  rfl
theorem U_shr (x : W32) (n : Nat) : (U x).fdiv (2 ^ n) = U (x >>> n) := by
  unfold U
  rw [BitVec.toNat_ushiftRight, Nat.shiftRight_eq_div_pow, Int.fdiv_eq_ediv_of_nonneg _ (Int.pow_nonneg (by omega)), Int.natCast_ediv, Int.natCast_pow]
  rfl
/-- To the right. -/
def rr (x : W32) (n : Nat) : W32 := (x >>> n) ||| (x <<< (32 - n))
theorem rr_or (x : W32) (n : Nat) : (x <<< (32 - n)) ||| (x >>> n) = rr x n := BitVec.or_comm _ _

/-- The turns that occur. -/
def turns : List (Int × Nat) := [(-2, 2), (-6, 6), (-7, 7), (-11, 11), (-13, 13), (-17, 17), (-18, 18), (-19, 19), (-22, 22), (-25, 25)]
theorem rot_gen (x y : W32) (k s u : Int) (n m : Nat) (h1 : bits .and .u64 (IntKind.u64.wrap k) 31 = s) (h2 : IntKind.u64.wrap (32 - s) = u) (hs : Op.shift .shl .u32 (U x) .u64 s = pure (.int .u32 (U (x <<< n)))) (ht : Op.shift .shr .u32 (U x) .u64 u = pure (.int .u32 (U (x >>> m))))
    (h3 : bits .or .u32 (U (x <<< n)) (U (x >>> m)) = U y) (w : World) : Calls Tryz.prog 133 #[.int .u32 (U x), .int .i64 k] w fun e w' => e = .returned (.int .u32 (U y)) ∧ w' = w := by
  go_enter Tryz.func133, Tryz.ntmps133
  go_wp2
  go_ret
  exact ⟨rfl, rfl⟩
theorem shift_shl (x : W32) (s : Int) (n : Nat) (h : s = n) (hn : n ≤ 32) : Op.shift .shl .u32 (U x) .u64 s = pure (.int .u32 (U (x <<< n))) := by
  subst h
  have : min ((n : Int).toNat) IntKind.u32.bits = n := by rw [Int.toNat_natCast]; exact Nat.min_eq_left hn
  simp only [Op.shift, this, U_shl]
  rw [if_neg (by omega)]
theorem shift_shr (x : W32) (s : Int) (n : Nat) (h : s = n) (hn : n ≤ 32) : Op.shift .shr .u32 (U x) .u64 s = pure (.int .u32 (U (x >>> n))) := by
  subst h
  have : min ((n : Int).toNat) IntKind.u32.bits = n := by rw [Int.toNat_natCast]; exact Nat.min_eq_left hn
  simp only [Op.shift, this, U_shr]
  rw [if_neg (by omega)]
theorem rot_ok (x : W32) (k : Int) (r : Nat) (h : (k, r) ∈ turns) (w : World) : Calls Tryz.prog 133 #[.int .u32 (U x), .int .i64 k] w fun e w' => e = .returned (.int .u32 (U (rr x r))) ∧ w' = w := by
  have hc : bits .and .u64 (IntKind.u64.wrap k) 31 = ((32 - r : Nat) : Int) ∧ IntKind.u64.wrap (32 - ((32 - r : Nat) : Int)) = (r : Int) ∧ r ≤ 32 := by
    revert h
    have : ∀ p ∈ turns, bits .and .u64 (IntKind.u64.wrap p.1) 31 = ((32 - p.2 : Nat) : Int) ∧ IntKind.u64.wrap (32 - ((32 - p.2 : Nat) : Int)) = (p.2 : Int) ∧ p.2 ≤ 32 := by decide
    exact this (k, r)
  exact rot_gen x _ k _ _ (32 - r) r hc.1 hc.2.1 (shift_shl x _ _ rfl (by omega)) (shift_shr x _ _ rfl hc.2.2) (by rw [U_or, rr_or]) w

theorem spread_ok (x l : W32) (a b : Int) (m n : Nat) (ha : (-a, m) ∈ turns) (hb : (-b, n) ∈ turns) (h1 : IntKind.i64.wrap (-a) = -a) (h2 : IntKind.i64.wrap (-b) = -b) (w : World) : Calls Tryz.prog 132 #[.int .u32 (U x), .int .i64 a, .int .i64 b, .int .u32 (U l)] w fun e w' => e = .returned (.int .u32 (U (rr x m ^^^ rr x n ^^^ l))) ∧ w' = w := by
  have H1 := Lib.hid (rot_ok x (-a) m ha)
  have H2 := Lib.hid (rot_ok x (-b) n hb)
  have h3 := U_xor (rr x m) (rr x n)
  have h4 := U_xor (rr x m ^^^ rr x n) l
  clear ha hb
  go_enter Tryz.func132, Tryz.ntmps132
  go_wp2_with fail
  refine (H1.out _).mono ?_
  rintro e w' ⟨rfl, rfl⟩
  go_wp2_with fail
  refine (H2.out _).mono ?_
  rintro e w' ⟨rfl, rfl⟩
  go_wp2_with fail
  go_ret
  exact ⟨rfl, rfl⟩
end Go.Proofs.YtfaooohenicfbaaGreatDoor
