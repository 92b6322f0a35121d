/- Reference 1 and 3: Num, Read, turn. -/
import Derived.Test.YtlgmodeibmdcgaaDoorRef1
set_option linter.unusedVariables false
set_option linter.unusedSimpArgs false
namespace Go.Proofs.YtlgmodeibmdcgaaDoor
open Go.RowKit

theorem turn_gen (x y : W32) (s u : Int) (n m : Nat) (h2 : IntKind.i64.wrap (32 - s) = u) (hs : Op.shift .shr .u32 (U x) .i64 s = pure (.int .u32 (U (x >>> n)))) (ht : Op.shift .shl .u32 (U x) .i64 u = pure (.int .u32 (U (x <<< m))))
    (h3 : bits .or .u32 (U (x >>> n)) (U (x <<< m)) = U y) (w : World) : Calls Tryd.prog 46 #[.int .u32 (U x), .int .i64 s] w fun e w' => e = .returned (.int .u32 (U y)) ∧ ∃ m, w' = w.drewN m := by
  go_enter Tryd.func46, Tryd.ntmps46
  go_wp2_with fail
  go_quiet (fail)
  go_wp2_with fail
  go_ret
  exact ⟨rfl, nq, rfl⟩
theorem shift_shl' (x : W32) (s : Int) (n : Nat) (h : s = n) (hn : n ≤ 32) : Op.shift .shl .u32 (U x) .i64 s = pure (.int .u32 (U (x <<< n))) := by
  subst h
  have : min ((n : Int).toNat) IntKind.u32.bits = n := by rw [Int.toNat_natCast]; exact Nat.min_eq_left hn
  simp only [Op.shift, this, U_shl]
  rw [if_neg (by omega)]
theorem shift_shr' (x : W32) (s : Int) (n : Nat) (h : s = n) (hn : n ≤ 32) : Op.shift .shr .u32 (U x) .i64 s = pure (.int .u32 (U (x >>> n))) := by
  subst h
  have : min ((n : Int).toNat) IntKind.u32.bits = n := by rw [Int.toNat_natCast]; exact Nat.min_eq_left hn
  simp only [Op.shift, this, U_shr]
  rw [if_neg (by omega)]
theorem turn_ok (x y : W32) (s : Int) (n : Nat) (h : s = n) (hn : n ≤ 32) (hy : rr x n = y) (w : World) : Calls Tryd.prog 46 #[.int .u32 (U x), .int .i64 s] w fun e w' => e = .returned (.int .u32 (U y)) ∧ ∃ m, w' = w.drewN m := by
  subst hy
  exact turn_gen x _ s (32 - s) n (32 - n) (IntWalk.i64_in _ (by omega)) (shift_shr' x s n h hn) (shift_shl' x _ _ (by omega) (by omega)) (U_or _ _) w

/-- A number's bytes, the greatest first. -/
def beN (n k : Nat) : Bs := (List.range k).map fun j => UInt8.ofNat (n / 2 ^ (8 * (k - 1 - j)))
theorem beN_len (n k : Nat) : (beN n k).length = k := by unfold beN; simp
theorem beN_get (n k j : Nat) (h : j < k) : (beN n k)[j]'(by rw [beN_len]; exact h) = UInt8.ofNat (n / 2 ^ (8 * (k - 1 - j))) := by simp [beN]
theorem row_u8 (w : World) (F : Nat → Prop) (b : UInt8) : Row Ty.u8 w F [b] [.int .u8 (b.toNat : Int)] := ⟨[.int .u8 (b.toNat : Int)], [], rfl, rfl, rfl⟩

set_option maxHeartbeats 1000000 in
set_option maxRecDepth 100000 in
theorem num_ok {w : World} {n k : Nat} (hn : n < 18446744073709551616) (hk : k ≤ 8) :
    Calls Tryd.prog 44 #[.int .u64 (n : Int), .int .i64 (k : Int)] w fun e w' => ∃ A c, e = .returned (.slice A k c) ∧ Ow Ty.u8 5 w' (fun i => w.heap.size ≤ i) (.slice A k c) (beN n k) ∧ Fr No w w' := by
  have hn0 : (0 : Int) ≤ (n : Int) := Int.natCast_nonneg _
  have hk0 : (0 : Int) ≤ (k : Int) := Int.natCast_nonneg _
  have hk1 : (k : Int) ≤ 8 := by omega
  clear hn
  go_enter Tryd.func44, Tryd.ntmps44
  go_wp2_with fail
  go_loopw [5, 6] (fun v s wr => ∃ i : Nat, i ≤ k ∧ s = .int .i64 (i : Int) ∧ ∃ A c, v = .slice A i c ∧ Hid (Ow Ty.u8 5 wr (fun i => w.heap.size ≤ i) (.slice A i c) ((beN n k).take i) ∧ Fr No w wr)) (fun _ s _ => k - (intOf s).toNat)
  case atStart => exact ⟨0, by omega, rfl, none, 0, rfl, Ow.nil, Fr.refl _ _⟩
  case round =>
    obtain ⟨i, hi, rfl, A, c, rfl, I⟩ := hrel
    have hi0 : (0 : Int) ≤ (i : Int) := Int.natCast_nonneg _
    by_cases hlt : i < k
    · have hi1 : (i : Int) < (k : Int) := by omega
      have hil : i < (beN n k).length := by rw [beN_len]; exact hlt
      have hb := beN_get n k i hlt
      obtain ⟨b, hbb⟩ : ∃ b, UInt8.ofNat (n / 2 ^ (8 * (k - 1 - i))) = b := ⟨_, rfl⟩
      have qb : (b.toNat : Int) = (n : Int) / 2 ^ (8 * (k - 1 - i)) % 256 := by
        rw [← hbb, UInt8.toNat_ofNat', Int.natCast_emod, Int.natCast_ediv, Int.natCast_pow]; rfl
      have hnext : (beN n k).take i ++ [b] = (beN n k).take (i + 1) := by rw [List.take_succ_eq_append_getElem hil, hb, hbb]
      have hlen : ((beN n k).take i).length = i := by rw [List.length_take, beN_len]; omega
      obtain ⟨W1, hW1⟩ : ∃ W1, W1 = wr.alloc (.cells #[.int .u8 ((n : Int) / 2 ^ (8 * (k - 1 - i)) % 256)] 5) := ⟨_, rfl⟩
      have hf1 : Fr No wr W1 := by rw [hW1]; exact (Fr.refl No wr).alloc _
      have hA : At W1 (some ⟨wr.heap.size, 0, none⟩) [.int .u8 (b.toNat : Int)] := by
        rw [hW1, qb]; exact At.block (heap_alloc_new wr _)
      have hO := I.out.1.fr0 hf1
      obtain ⟨A1, c1, w1, hrun, hO1, hg1, _⟩ := run_ow_append (P := Tryd.prog) (ty := 30) (ty' := 30) Ty.u8 hO (.int .u8 0) 1 Tryd.underlying30 info_u8 rfl (by decide) (by decide) 1 (ys := [b]) (row_u8 _ _ b) hA (by simp; omega)
      rw [hlen] at hrun hO1
      rw [hnext] at hO1
      have hf2 : Fr No w w1 := (I.out.2.trans (hf1.mono fun _ _ f => f.elim)).grown hg1 fun k hk => .inr (I.out.1.own hk).1
      have hsz : w.heap.size ≤ W1.heap.size := Nat.le_trans I.out.2.size hf1.size
      have HH := Lib.hid (And.intro hO1 (And.intro hf2 hsz))
      clear hsz
      clear hO1 hf2 hg1 hO hA hf1 hlen hnext qb hbb hb hil
      simp only [List.length_singleton] at hrun HH
      go_wp2_with (at_builtin; rw [← hW1]; refine wpList_plain rfl fun K hK => wp_append_run _ _ _ _ rfl rfl rfl hrun (hK _ _ ?_))
      go_roundw
      case rel => exact ⟨i + 1, by omega, by go_num, A1, c1, rfl, HH.out.1.mono fun k hk _ => by (have := HH.out.2.2; rcases hk with hk | hk <;> omega), HH.out.2.1⟩
      case measure => simp [intOf]; omega
    · obtain rfl : i = k := by omega
      have ht : (beN n i).take i = beN n i := List.take_of_length_le (by rw [beN_len]; omega)
      rw [ht] at I
      clear ht
      go_wp2_with fail
      go_ret
      exact ⟨A, c, rfl, I.out.1, I.out.2⟩

/-- The number that bytes are. -/
def rdN (l : Bs) : Nat := l.foldl (fun x b => 256 * x + b.toNat) 0
theorem rdN_snoc (l : Bs) (b : UInt8) : rdN (l ++ [b]) = 256 * rdN l + b.toNat := by unfold rdN; rw [List.foldl_append]; rfl
theorem rdN_lt' (l : Bs) : ∀ a, l.foldl (fun x (b : UInt8) => 256 * x + b.toNat) a < (a + 1) * 256 ^ l.length := by
  induction l with
  | nil => intro a; simp
  | cons b l ih =>
    intro a
    have h1 := b.toNat_lt
    have h2 := ih (256 * a + b.toNat)
    have h3 : (256 * a + b.toNat + 1) * 256 ^ l.length ≤ ((a + 1) * 256) * 256 ^ l.length := Nat.mul_le_mul_right _ (by omega)
    have h4 : ((a + 1) * 256) * 256 ^ l.length = (a + 1) * 256 ^ (l.length + 1) := by rw [Nat.mul_assoc, Nat.pow_succ, Nat.mul_comm 256 (256 ^ l.length)]
    rw [h4] at h3
    exact Nat.lt_of_lt_of_le h2 h3
theorem rdN_lt (l : Bs) : rdN l < 256 ^ l.length := by have := rdN_lt' l 0; rwa [Nat.zero_add, Nat.one_mul] at this

set_option maxHeartbeats 1000000 in
set_option maxRecDepth 100000 in
theorem read_ok {w : World} {F : Nat → Prop} {A : Option Addr} {c : Nat} {xs : Bs} (h : Rd Ty.u8 w F A xs) (hl : xs.length ≤ 4) :
    Calls Tryd.prog 45 #[.slice A xs.length c] w fun e w' => e = .returned (.int .u64 (rdN xs : Int)) ∧ ∃ m, w' = w.drewN m := by
  have hl4 : (xs.length : Int) ≤ 4 := by omega
  have H := Lib.hid (And.intro h hl)
  clear h hl
  go_enter Tryd.func45, Tryd.ntmps45
  go_wp2_with fail
  go_loopw [3, 4] (fun v s wr => ∃ i : Nat, i ≤ xs.length ∧ s = .int .i64 (i : Int) ∧ ∃ x : Int, v = .int .u64 x ∧ Hid (x = (rdN (xs.take i) : Int) ∧ ∃ m, wr = w.drewN m)) (fun _ s _ => xs.length - (intOf s).toNat)
  case atStart => exact ⟨0, by omega, rfl, 0, rfl, rfl, 0, (World.drewN_zero w).symm⟩
  case round =>
    obtain ⟨i, hi, rfl, x, rfl, I⟩ := hrel
    have hf : Fr No w wr := by obtain ⟨_, m, e⟩ := I.out; rw [e]; exact (Fr.refl No w).drewN m
    have hi0 : (0 : Int) ≤ (i : Int) := Int.natCast_nonneg _
    by_cases hlt : i < xs.length
    · have hi1 : (i : Int) < (xs.length : Int) := by omega
      obtain ⟨ad, rfl, x0⟩ := u8_at (H.out.1.fr0 hf) hlt
      have hnext : (rdN (xs.take (i + 1)) : Int) = 256 * x + (xs[i].toNat : Int) := by
        rw [List.take_succ_eq_append_getElem hlt, rdN_snoc, I.out.1]; omega
      have hx0 : 0 ≤ x := by rw [I.out.1]; omega
      have hx1 : x < 16777216 := by
        have h1 := rdN_lt (xs.take i)
        have h2 : (xs.take i).length ≤ 3 := by rw [List.length_take]; have := H.out.2; omega
        have h3 := Nat.pow_le_pow_right (n := 256) (by decide) h2
        rw [I.out.1]; omega
      obtain ⟨b, hb⟩ : ∃ b, xs[i] = b := ⟨_, rfl⟩
      rw [hb] at x0 hnext
      have hb0 := b.toNat_lt
      obtain ⟨y, hy⟩ : ∃ y : Int, (b.toNat : Int) = y := ⟨_, rfl⟩
      rw [hy] at x0 hnext
      have hy0 : 0 ≤ y := by omega
      have hy1 : y < 256 := by omega
      have HN := Lib.hid hnext
      clear hnext hb hf hb0 hy
      go_wp2_with fail
      go_roundw
      case rel => exact ⟨i + 1, by omega, by go_num, _, rfl, HN.out.symm, I.out.2⟩
      case measure => simp [intOf]; omega
    · obtain rfl : i = xs.length := by omega
      go_wp2_with fail
      go_ret
      exact ⟨by rw [I.out.1, List.take_length]; rfl, I.out.2⟩
end Go.Proofs.YtlgmodeibmdcgaaDoor
