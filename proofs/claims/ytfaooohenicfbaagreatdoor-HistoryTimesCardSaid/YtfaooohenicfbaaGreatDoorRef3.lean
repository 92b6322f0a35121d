/- Reference 1 and 3: Num, Read, turn. -/
import Derived.Test.YtfaooohenicfbaaGreatDoorRef1
import Derived.Test.YtfaooohenicfbaaGreatDoorSum
set_option linter.unusedVariables false
set_option linter.unusedSimpArgs false
namespace Go.Proofs.YtfaooohenicfbaaGreatDoor
open Go.RowKit

theorem shift_shl' (x : W32) (s : Int) (n : Nat) (h : s = n) (hn : n ≤ 32) : Op.shift .shl .u32 (U x) .i64 s = pure (.int .u32 (U (x <<< n))) := by
  subst h
  have : min ((n : Int).toNat) IntKind.u32.bits = n := by rw [Int.toNat_natCast]; exact Nat.min_eq_left hn
  simp only [Op.shift, this, U_shl]
  rw [if_neg (by omega)]
theorem shift_shr' (x : W32) (s : Int) (n : Nat) (h : s = n) (hn : n ≤ 32) : Op.shift .shr .u32 (U x) .i64 s = pure (.int .u32 (U (x >>> n))) := by
  subst h
  have : min ((n : Int).toNat) IntKind.u32.bits = n := by rw [Int.toNat_natCast]; exact Nat.min_eq_left hn
  simp only [Op.shift, this, U_shr]
  rw [if_neg (by omega)]
/-- A number's bytes, the greatest first. -/
def beN (n k : Nat) : Bs := (List.range k).map fun j => UInt8.ofNat (n / 2 ^ (8 * (k - 1 - j)))
theorem beN_len (n k : Nat) : (beN n k).length = k := by unfold beN; simp
theorem beN_get (n k j : Nat) (h : j < k) : (beN n k)[j]'(by rw [beN_len]; exact h) = UInt8.ofNat (n / 2 ^ (8 * (k - 1 - j))) := by simp [beN]
theorem row_u8 (w : World) (F : Nat → Prop) (b : UInt8) : Row Ty.u8 w F [b] [.int .u8 (b.toNat : Int)] := ⟨[.int .u8 (b.toNat : Int)], [], rfl, rfl, rfl⟩

/-- The number that bytes are. -/
def rdN (l : Bs) : Nat := l.foldl (fun x b => 256 * x + b.toNat) 0
theorem rdN_snoc (l : Bs) (b : UInt8) : rdN (l ++ [b]) = 256 * rdN l + b.toNat := by unfold rdN; rw [List.foldl_append]; rfl
theorem rdN_lt' (l : Bs) : ∀ a, l.foldl (fun x (b : UInt8) => 256 * x + b.toNat) a < (a + 1) * 256 ^ l.length := by
  induction l with
  | nil => intro a; simp
  | cons b l ih =>
    intro a
    have h1 := b.toNat_lt
    have h2 := ih (256 * a + b.toNat)
    have h3 : (256 * a + b.toNat + 1) * 256 ^ l.length ≤ ((a + 1) * 256) * 256 ^ l.length := Nat.mul_le_mul_right _ (by omega)
    have h4 : ((a + 1) * 256) * 256 ^ l.length = (a + 1) * 256 ^ (l.length + 1) := by rw [Nat.mul_assoc, Nat.pow_succ, Nat.mul_comm 256 (256 ^ l.length)]
    rw [h4] at h3
    exact Nat.lt_of_lt_of_le h2 h3
theorem rdN_lt (l : Bs) : rdN l < 256 ^ l.length := by have := rdN_lt' l 0; rwa [Nat.zero_add, Nat.one_mul] at this

end Go.Proofs.YtfaooohenicfbaaGreatDoor
