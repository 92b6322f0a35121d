/- The i-th bit of a sum: the program's and the reference's. -/
import Derived.Test.YtlgmodeibmdcgaaDoorRef1
set_option linter.unusedVariables false
set_option linter.unusedSimpArgs false
namespace Go.Proofs.YtlgmodeibmdcgaaDoor
open Go.RowKit

def bitN (d : ByteArray) (i : Nat) : Nat := ((d.data.toList[i / 8]?).getD 0).toNat / 2 ^ (7 - i % 8) % 2
def bitB (d : ByteArray) (i : Nat) : Bool := bitN d i == 1
theorem bitN_lt (d : ByteArray) (i : Nat) : bitN d i < 2 := Nat.mod_lt _ (by decide)
theorem bitN_eq (d : ByteArray) (i : Nat) : bitN d i = if bitB d i then 1 else 0 := by
  have := bitN_lt d i
  unfold bitB
  rcases Nat.lt_or_ge (bitN d i) 1 with h | h
  · have : bitN d i = 0 := by omega
    rw [this]; rfl
  · have : bitN d i = 1 := by omega
    rw [this]; rfl

theorem shift_u8 (x : Nat) (s : Nat) (hs : s ≤ 7) : Op.shift .shr .u8 (x : Int) .i64 (s : Int) = pure (.int .u8 ((x / 2 ^ s : Nat) : Int)) := by
  have h1 : min ((s : Int).toNat) IntKind.u8.bits = s := by rw [Int.toNat_natCast]; exact Nat.min_eq_left (by show s ≤ 8; omega)
  simp only [Op.shift, h1]
  rw [if_neg (by omega)]
  congr 2
  rw [Int.fdiv_eq_ediv_of_nonneg _ (Int.pow_nonneg (by omega)), Int.natCast_ediv, Int.natCast_pow]
  rfl
theorem and_one (y : Nat) (hy : y < 256) : bits .and .i64 (y : Int) 1 = ((y % 2 : Nat) : Int) := by
  revert hy; revert y
  decide +kernel
theorem shift_i64 (x : Nat) (s : Nat) (hs : s ≤ 7) : Op.shift .shr .i64 (x : Int) .i64 (s : Int) = pure (.int .i64 ((x / 2 ^ s : Nat) : Int)) := by
  have h1 : min ((s : Int).toNat) IntKind.i64.bits = s := by rw [Int.toNat_natCast]; exact Nat.min_eq_left (by show s ≤ 64; omega)
  simp only [Op.shift, h1]
  rw [if_neg (by omega)]
  congr 2
  rw [Int.fdiv_eq_ediv_of_nonneg _ (Int.pow_nonneg (by omega)), Int.natCast_ediv, Int.natCast_pow]
  rfl


theorem bit_parts (d : ByteArray) (i : Nat) (hi : i / 8 < d.size) (hd : d.size ≤ 100) : ∃ q r s y : Nat, ∃ hq : q < d.size, (i : Int) ≤ 1000 ∧ (i : Int) / 8 = (q : Int) ∧ (i : Int) % 8 = (r : Int) ∧ (7 : Int) - (r : Int) = (s : Int) ∧ IntKind.i64.wrap (s : Int) = (s : Int) ∧ (d[q].toNat : Int) / 2 ^ s = (y : Int) ∧ y < 256 ∧ y % 2 = bitN d i ∧ s ≤ 7 := by
  have hb := d[i / 8].toNat_lt
  refine ⟨i / 8, i % 8, 7 - i % 8, d[i / 8].toNat / 2 ^ (7 - i % 8), hi, by omega, by omega, by omega, by omega, IntWalk.i64_in _ (by omega), by rw [Int.natCast_ediv, Int.natCast_pow]; rfl, Nat.lt_of_le_of_lt (Nat.div_le_self _ _) hb, ?_, by omega⟩
  unfold bitN
  rw [List.getElem?_eq_getElem (by simpa using hi)]
  rfl

theorem ret_int {k : IntKind} {a b : Int} (h : a = b) : Ending.returned (.int k a) = .returned (.int k b) := by rw [h]
set_option maxHeartbeats 1000000 in
set_option maxRecDepth 100000 in
theorem sha_bit (d : ByteArray) (i : Nat) (hi : i / 8 < d.size) (hd : d.size ≤ 100) (w : World) :
    Calls Tryd.prog 58 #[.string d, .int .i64 (i : Int)] w fun e w' => e = .returned (.int .i64 (bitN d i : Int)) ∧ w' = w := by
  obtain ⟨q, r, s, y, hq, hi1, e1, e2, e3, e4, e5, hy, hb, hs⟩ := bit_parts d i hi hd
  have hi0 : (0 : Int) ≤ (i : Int) := Int.natCast_nonneg _
  have hqs : (q : Int) < (d.size : Int) := by omega
  have hq0 : (0 : Int) ≤ (q : Int) := Int.natCast_nonneg _
  have hy0 : (0 : Int) ≤ (y : Int) := Int.natCast_nonneg _
  have hy1 : (y : Int) < 256 := by omega
  have hs0 : (0 : Int) ≤ (s : Int) := Int.natCast_nonneg _
  have hs1 : (s : Int) ≤ 7 := by omega
  have k2 := and_one y hy
  rw [hb] at k2
  obtain ⟨v, hv⟩ : ∃ v, bitN d i = v := ⟨_, rfl⟩
  rw [hv] at k2 ⊢
  clear hb hv hy hs hi hd
  go_enter Tryd.func58, Tryd.ntmps58
  go_wp2_with fail
  go_ret
  exact ⟨rfl, rfl⟩
set_option maxHeartbeats 1000000 in
set_option maxRecDepth 100000 in
theorem ref_bit (d : ByteArray) (i : Nat) (hi : i / 8 < d.size) (hd : d.size ≤ 100) (w : World) :
    Calls Tryd.prog 47 #[.string d, .int .i64 (i : Int)] w fun e w' => e = .returned (.int .i64 (bitN d i : Int)) ∧ w' = w := by
  obtain ⟨q, r, s, y, hq, hi1, e1, e2, e3, e4, e5, hy, hb, hs⟩ := bit_parts d i hi hd
  have hi0 : (0 : Int) ≤ (i : Int) := Int.natCast_nonneg _
  have hi2 : (i : Int) < 8 * (d.size : Int) := by omega
  have hd0 : (d.size : Int) ≤ 100 := by omega
  have hqs : (q : Int) < (d.size : Int) := by omega
  have hq0 : (0 : Int) ≤ (q : Int) := Int.natCast_nonneg _
  have hy0 : (0 : Int) ≤ (y : Int) := Int.natCast_nonneg _
  have hy1 : (y : Int) < 256 := by omega
  have hs0 : (0 : Int) ≤ (s : Int) := Int.natCast_nonneg _
  have hs1 : (s : Int) ≤ 7 := by omega
  have k5 : (y : Int) % 2 = (bitN d i : Int) := by omega
  have hx := d[q].toNat_lt
  have hx1 : (d[q].toNat : Int) < 256 := by omega
  obtain ⟨v, hv⟩ : ∃ v, bitN d i = v := ⟨_, rfl⟩
  rw [hv] at k5 ⊢
  clear hb hv hy hs hi hd hx
  go_enter Tryd.func47, Tryd.ntmps47
  go_wp2_with fail
  go_ret
  exact ⟨ret_int k5, rfl⟩
end Go.Proofs.YtlgmodeibmdcgaaDoor
