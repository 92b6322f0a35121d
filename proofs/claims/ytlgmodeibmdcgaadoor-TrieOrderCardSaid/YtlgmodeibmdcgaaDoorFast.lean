/- SHA-256 of two bytes, by plain numbers: the sums of all keys that occur differ. -/
import Derived.Test.YtlgmodeibmdcgaaDoorTrie
import Derived.Test.YtlgmodeibmdcgaaDoorShaLaw
set_option linter.unusedVariables false
set_option linter.unusedSimpArgs false
namespace Go.Proofs.YtlgmodeibmdcgaaDoor
open Go.RowKit

def force {α : Type} (n : Nat) (f : Nat → α) : α := Nat.rec (motive := fun _ => α) (f 0) (fun m _ => f (m + 1)) n
theorem force_eq {α : Type} (n : Nat) (f : Nat → α) : force n f = f n := by cases n <;> rfl
def rrN (x n : Nat) : Nat := (x >>> n) ||| ((x <<< (32 - n)) % 4294967296)
def goN : List Nat → (a b c d e f g h w0 w1 w2 w3 w4 w5 w6 w7 w8 w9 w10 w11 w12 w13 w14 w15 : Nat) → Nat
  | [], a, _, _, _, _, _, _, _, _, _, _, _, _, _, _, _, _, _, _, _, _, _, _, _ => a
  | k :: ks, a, b, c, d, e, f, g, h, w0, w1, w2, w3, w4, w5, w6, w7, w8, w9, w10, w11, w12, w13, w14, w15 =>
      force ((h + (rrN e 6 ^^^ rrN e 11 ^^^ rrN e 25) + (g ^^^ (e &&& (f ^^^ g))) + k + w0) % 4294967296) fun t =>
      force ((t + ((rrN a 2 ^^^ rrN a 13 ^^^ rrN a 22) + ((a &&& b) ||| (c &&& (a ||| b))))) % 4294967296) fun a' =>
      force ((d + t) % 4294967296) fun e' =>
      force ((w0 + w9 + (rrN w1 7 ^^^ rrN w1 18 ^^^ (w1 >>> 3)) + (rrN w14 17 ^^^ rrN w14 19 ^^^ (w14 >>> 10))) % 4294967296) fun w' =>
      goN ks a' a b c e' e f g w1 w2 w3 w4 w5 w6 w7 w8 w9 w10 w11 w12 w13 w14 w15 w'
/-- The first word of the sum of two bytes. -/
def w0N (a b : Nat) : Nat := (1779033703 + goN KL 0x6a09e667 0xbb67ae85 0x3c6ef372 0xa54ff53a 0x510e527f 0x9b05688c 0x1f83d9ab 0x5be0cd19 (a * 16777216 + b * 65536 + 32768) 0 0 0 0 0 0 0 0 0 0 0 0 0 0 16) % 4294967296

theorem rrN_eq (x : W32) (n : Nat) : rrN x.toNat n = (rr x n).toNat := by
  unfold rrN rr
  rw [BitVec.toNat_or, BitVec.toNat_ushiftRight, BitVec.toNat_shiftLeft]
theorem wS_nextN (p : Bs) (k : Nat) : ((wS p k).toNat + (wS p (k + 9)).toNat + (rrN (wS p (k + 1)).toNat 7 ^^^ rrN (wS p (k + 1)).toNat 18 ^^^ ((wS p (k + 1)).toNat >>> 3)) + (rrN (wS p (k + 14)).toNat 17 ^^^ rrN (wS p (k + 14)).toNat 19 ^^^ ((wS p (k + 14)).toNat >>> 10))) % 4294967296 = (wS p (k + 16)).toNat := by
  have h := wS_next p (k := k + 16) (by omega)
  rw [show k + 16 - 16 = k by omega, show k + 16 - 7 = k + 9 by omega, show k + 16 - 15 = k + 1 by omega, show k + 16 - 2 = k + 14 by omega] at h
  rw [h, BitVec.toNat_add, BitVec.toNat_add, BitVec.toNat_add, rrN_eq, rrN_eq, rrN_eq, rrN_eq]
  unfold sg0 sg1
  rw [BitVec.toNat_xor, BitVec.toNat_xor, BitVec.toNat_xor, BitVec.toNat_xor, BitVec.toNat_ushiftRight, BitVec.toNat_ushiftRight]
  omega
theorem rT_N (S : Nat → W32) (k w : W32) : ((S 7).toNat + (rrN (S 4).toNat 6 ^^^ rrN (S 4).toNat 11 ^^^ rrN (S 4).toNat 25) + ((S 6).toNat ^^^ ((S 4).toNat &&& ((S 5).toNat ^^^ (S 6).toNat))) + k.toNat + w.toNat) % 4294967296 = (rT S k w).toNat := by
  unfold rT SG1
  rw [rrN_eq, rrN_eq, rrN_eq, BitVec.toNat_add, BitVec.toNat_add, BitVec.toNat_add, BitVec.toNat_add, BitVec.toNat_xor, BitVec.toNat_xor, BitVec.toNat_xor, BitVec.toNat_and, BitVec.toNat_xor]
  omega
theorem rU_N (S : Nat → W32) (t : W32) : (t.toNat + ((rrN (S 0).toNat 2 ^^^ rrN (S 0).toNat 13 ^^^ rrN (S 0).toNat 22) + (((S 0).toNat &&& (S 1).toNat) ||| ((S 2).toNat &&& ((S 0).toNat ||| (S 1).toNat))))) % 4294967296 = (t + rU S).toNat := by
  unfold rU SG0
  rw [rrN_eq, rrN_eq, rrN_eq, BitVec.toNat_add, BitVec.toNat_add, BitVec.toNat_xor, BitVec.toNat_xor, BitVec.toNat_or, BitVec.toNat_and, BitVec.toNat_and, BitVec.toNat_or]
  omega
theorem Kc_N {k : Nat} (h : k < KL.length) : (Kc k).toNat = KL[k]'h := by
  have h1 := Kc_U (show k < 64 from h)
  have h2 : KL.getD k 0 = KL[k]'h := by rw [List.getD_eq_getElem?_getD, List.getElem?_eq_getElem h]; rfl
  unfold U at h1
  rw [h2] at h1
  omega
theorem goN_ok (H : Nat → W32) (p : Bs) : ∀ n k, k + n = 64 → goN (KL.drop k) (stAt H p k 0).toNat (stAt H p k 1).toNat (stAt H p k 2).toNat (stAt H p k 3).toNat (stAt H p k 4).toNat (stAt H p k 5).toNat (stAt H p k 6).toNat (stAt H p k 7).toNat
    (wS p k).toNat (wS p (k + 1)).toNat (wS p (k + 2)).toNat (wS p (k + 3)).toNat (wS p (k + 4)).toNat (wS p (k + 5)).toNat (wS p (k + 6)).toNat (wS p (k + 7)).toNat (wS p (k + 8)).toNat (wS p (k + 9)).toNat (wS p (k + 10)).toNat (wS p (k + 11)).toNat (wS p (k + 12)).toNat (wS p (k + 13)).toNat (wS p (k + 14)).toNat (wS p (k + 15)).toNat = (stAt H p 64 0).toNat := by
  intro n
  induction n with
  | zero =>
    intro k hk
    obtain rfl : k = 64 := by omega
    rfl
  | succ n ih =>
    intro k hk
    have hlt : k < 64 := by omega
    have hlt' : k < KL.length := hlt
    rw [List.drop_eq_getElem_cons hlt', ← ih (k + 1) (by omega)]
    conv => lhs; unfold goN
    rw [force_eq, force_eq, force_eq, force_eq, ← Kc_N hlt', rT_N, rU_N, wS_nextN]
    have e4 : ((stAt H p k 3).toNat + (rT (stAt H p k) (Kc k) (wS p k)).toNat) % 4294967296 = (stAt H p (k + 1) 4).toNat := by
      show _ = (stAt H p k 3 + rT (stAt H p k) (Kc k) (wordAt (ringAt p k) k)).toNat
      rw [BitVec.toNat_add]; rfl
    rw [e4]
    rfl
/-- One block of two bytes. -/
theorem pad_two (a b : UInt8) : pad [a, b] = [a, b, 128] ++ List.replicate 60 0 ++ [16] := by
  have e1 : zeros ([a, b] : Bs).length = 53 := by simp [zeros]
  have e2 : be8 (8 * ([a, b] : Bs).length) = List.replicate 7 0 ++ [16] := by show be8 16 = _; decide
  unfold pad
  rw [e1, e2]
  rfl
theorem w0_two (a b : UInt8) : ((feed H0 (pad [a, b])).1 0).toNat = w0N a.toNat b.toNat := by
  have hl : (pad [a, b]).length = 64 := by rw [pad_two]; rfl
  rw [feed_ge (by omega), feed_lt (by rw [List.length_drop]; omega), List.take_of_length_le (by omega)]
  show (eatS H0 (pad [a, b]) 0).toNat = _
  unfold eatS
  rw [BitVec.toNat_add, ← goN_ok H0 (pad [a, b]) 64 0 rfl]
  have hw : ∀ k, k < 16 → (wS (pad [a, b]) k).toNat = rdN (seg (pad [a, b]) k) := by
    intro k hk
    rw [wS_first _ hk, BitVec.toNat_ofNat]
    have h1 := rdN_lt (seg (pad [a, b]) k)
    have h2 : (seg (pad [a, b]) k).length ≤ 4 := by unfold seg; rw [List.length_take]; omega
    have h3 := Nat.pow_le_pow_right (n := 256) (by decide) h2
    exact Nat.mod_eq_of_lt (by omega)
  have h0 : rdN (seg (pad [a, b]) 0) = a.toNat * 16777216 + b.toNat * 65536 + 32768 := by
    rw [pad_two]
    show (256 * (256 * (256 * (256 * 0 + a.toNat) + b.toNat) + 128) + 0) = _
    omega
  rw [hw 0 (by decide), hw (0 + 1) (by decide), hw (0 + 2) (by decide), hw (0 + 3) (by decide), hw (0 + 4) (by decide), hw (0 + 5) (by decide), hw (0 + 6) (by decide), hw (0 + 7) (by decide), hw (0 + 8) (by decide), hw (0 + 9) (by decide), hw (0 + 10) (by decide), hw (0 + 11) (by decide), hw (0 + 12) (by decide), hw (0 + 13) (by decide), hw (0 + 14) (by decide), hw (0 + 15) (by decide), h0, pad_two]
  rfl

/-! ### The keys -/
theorem be4_inj {x y : W32} (h : be4 x = be4 y) : x = y := by
  unfold be4 at h
  simp only [List.map_cons, List.map_nil, show List.range 4 = [0, 1, 2, 3] from rfl, List.cons.injEq, and_true] at h
  obtain ⟨h0, h1, h2, h3⟩ := h
  have g := fun (u v : Nat) (e : UInt8.ofNat u = UInt8.ofNat v) => show u % 256 = v % 256 by
    have := congrArg UInt8.toNat e
    rwa [UInt8.toNat_ofNat', UInt8.toNat_ofNat'] at this
  have a0 : x.toNat / 16777216 % 256 = y.toNat / 16777216 % 256 := g _ _ h0
  have a1 : x.toNat / 65536 % 256 = y.toNat / 65536 % 256 := g _ _ h1
  have a2 : x.toNat / 256 % 256 = y.toNat / 256 % 256 := g _ _ h2
  have a3 : x.toNat / 1 % 256 = y.toNat / 1 % 256 := g _ _ h3
  apply BitVec.eq_of_toNat_eq
  have hx := x.isLt
  have hy := y.isLt
  omega
end Go.Proofs.YtlgmodeibmdcgaaDoor
