/- SHA-256: the reference's schedule and rounds are the program's: plain laws. -/
import Derived.Test.YtlgmodeibmdcgaaDoorSha6
import Derived.Test.YtlgmodeibmdcgaaDoorRef3
set_option linter.unusedVariables false
set_option linter.unusedSimpArgs false
namespace Go.Proofs.YtlgmodeibmdcgaaDoor
open Go.RowKit

/-- The schedule's k-th word. -/
def wS (p : Bs) (k : Nat) : W32 := wordAt (ringAt p k) k
theorem ringAt_small (p : Bs) : ∀ k, k ≤ 16 → ringAt p k = inAll (fun _ => 0) 0 p
  | 0, _ => rfl
  | k + 1, h => by
    show ringNext (ringAt p k) k = _
    unfold ringNext
    rw [if_pos (by omega), ringAt_small p k (by omega)]
theorem wS_small (p : Bs) {k : Nat} (h : k < 16) : wS p k = inAll (fun _ => 0) 0 p k := by
  unfold wS wordAt
  rw [if_pos h, ringAt_small p k (by omega)]
theorem ring_wS (p : Bs) : ∀ k, 16 ≤ k → ∀ i, k ≤ i + 16 → i < k → ringAt p k (i % 16) = wS p i := by
  intro k hk
  induction k with
  | zero => omega
  | succ k ih =>
    intro i h1 h2
    by_cases h16 : k + 1 = 16
    · rw [ringAt_small p _ (by omega), wS_small p (by omega), Nat.mod_eq_of_lt (by omega)]
    · show ringNext (ringAt p k) k _ = _
      unfold ringNext upd
      rw [if_neg (by omega)]
      by_cases e : i = k
      · subst e
        show (if i % 16 = i % 16 then _ else _) = _
        rw [if_pos rfl]
        unfold wS wordAt
        rw [if_neg (by omega)]
      · show (if i % 16 = k % 16 then _ else _) = _
        rw [if_neg (by omega)]
        exact ih (by omega) i (by omega) (by omega)
theorem wS_next (p : Bs) {k : Nat} (h : 16 ≤ k) : wS p k = wS p (k - 16) + wS p (k - 7) + sg0 (wS p (k - 15)) + sg1 (wS p (k - 2)) := by
  have e : wS p k = nextW (ringAt p k) k := by unfold wS wordAt; rw [if_neg (by omega)]
  rw [e]
  unfold nextW
  rw [show k % 16 = (k - 16) % 16 by omega, show (k + 1) % 16 = (k - 15) % 16 by omega, show (k + 9) % 16 = (k - 7) % 16 by omega, show (k + 14) % 16 = (k - 2) % 16 by omega]
  rw [ring_wS p k h _ (by omega) (by omega), ring_wS p k h _ (by omega) (by omega), ring_wS p k h _ (by omega) (by omega), ring_wS p k h _ (by omega) (by omega)]
  rw [BitVec.add_comm (sg0 _) (wS p (k - 7)), BitVec.add_assoc, BitVec.add_assoc, BitVec.add_assoc]

/-- The first words are the bytes. -/
def seg (p : Bs) (i : Nat) : Bs := (p.drop (4 * i)).take 4
theorem word_snoc (r : Nat) (b : UInt8) : (BitVec.ofNat 32 r <<< 8) ||| b32 b = BitVec.ofNat 32 (256 * r + b.toNat) := by
  apply BitVec.eq_of_toNat_eq
  have hb := b.toNat_lt
  unfold b32
  rw [BitVec.toNat_or, BitVec.toNat_shiftLeft, BitVec.toNat_ofNat, BitVec.toNat_ofNat, BitVec.toNat_ofNat]
  have h1 : (r % 2 ^ 32) <<< 8 % 2 ^ 32 = (r % 2 ^ 24) <<< 8 := by rw [Nat.shiftLeft_eq, Nat.shiftLeft_eq]; omega
  have h2 : b.toNat % 2 ^ 32 = b.toNat := by omega
  rw [h1, h2, ← Nat.shiftLeft_add_eq_or_of_lt (by omega), Nat.shiftLeft_eq]
  omega
theorem inAll_at (p : Bs) (i : Nat) : inAll (fun _ => 0) 0 p i = BitVec.ofNat 32 (rdN (seg p i)) := by
  suffices ∀ n, n ≤ p.length → inAll (fun _ => 0) 0 (p.take n) i = BitVec.ofNat 32 (rdN (seg (p.take n) i)) by
    have := this p.length (Nat.le_refl _)
    rwa [List.take_length] at this
  intro n
  induction n with
  | zero => intro _; unfold seg; simp; rfl
  | succ n ih =>
    intro hn
    have ih := ih (by omega)
    have hl : (p.take n).length = n := by rw [List.length_take]; omega
    rw [List.take_succ_eq_append_getElem (by omega), inAll_snoc, hl, Nat.zero_add]
    obtain ⟨b, hb⟩ : ∃ b, p[n] = b := ⟨_, rfl⟩
    rw [hb]
    unfold inB1 upd
    by_cases e : i = n / 4
    · subst e
      rw [if_pos rfl, ih, word_snoc, ← rdN_snoc]
      congr 2
      unfold seg
      rw [List.drop_append_of_le_length (by omega), List.take_of_length_le (l := List.drop _ _ ++ [b]) (by simp; omega), List.take_of_length_le (by simp; omega)]
    · rw [if_neg e, ih]
      congr 2
      unfold seg
      rcases Nat.lt_or_ge i (n / 4) with h | h
      · rw [List.drop_append_of_le_length (by omega), List.take_append_of_le_length (by simp; omega)]
      · rw [List.drop_eq_nil_of_le (by omega), List.drop_eq_nil_of_le (by simp; omega)]
theorem wS_first (p : Bs) {k : Nat} (h : k < 16) : wS p k = BitVec.ofNat 32 (rdN (seg p k)) := by rw [wS_small p h, inAll_at]

/-- Choice and most. -/
theorem choice_eq (e f g : W32) : (e &&& f) ||| (~~~e &&& g) = g ^^^ (e &&& (f ^^^ g)) := by
  apply BitVec.eq_of_getLsbD_eq
  intro i hi
  simp only [BitVec.getLsbD_or, BitVec.getLsbD_and, BitVec.getLsbD_xor, BitVec.getLsbD_not, hi, decide_true, Bool.true_and]
  cases e.getLsbD i <;> cases f.getLsbD i <;> cases g.getLsbD i <;> rfl
theorem most_eq (a b c : W32) : (a &&& b) ^^^ (a &&& c) ^^^ (b &&& c) = (a &&& b) ||| (c &&& (a ||| b)) := by
  apply BitVec.eq_of_getLsbD_eq
  intro i hi
  simp only [BitVec.getLsbD_or, BitVec.getLsbD_and, BitVec.getLsbD_xor]
  cases a.getLsbD i <;> cases b.getLsbD i <;> cases c.getLsbD i <;> rfl
theorem U_not (x : W32) : IntKind.u32.wrap (4294967295 - U x) = U (~~~x) := by
  rw [wrap_u32]
  unfold U
  rw [BitVec.toNat_not]
  have := x.isLt
  omega
theorem U_not' (x : W32) : 4294967295 - U x = U (~~~x) := by
  have h := U_not x
  rw [wrap_u32] at h
  have := U_lt x
  have := U_nonneg x
  omega
theorem be8_beN (n : Nat) : be8 n = beN n 8 := by
  unfold be8 beN
  apply List.map_congr_left
  intro j hj
  rw [List.mem_range] at hj
  rw [show 8 * (8 - 1 - j) = 56 - 8 * j by omega]
theorem be4_beN (x : W32) : be4 x = beN x.toNat 4 := by
  unfold be4 beN
  apply List.map_congr_left
  intro j hj
  rw [List.mem_range] at hj
  rw [show 8 * (4 - 1 - j) = 24 - 8 * j by omega]
end Go.Proofs.YtlgmodeibmdcgaaDoor
