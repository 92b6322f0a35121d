/- Texts of this claim, one behind the other: Ref3, Cat, Tab. -/
import Derived.Test.YtlmhphejgahfbaaGreatDoorMrowledgerdeletes3
import Derived.Test.YtlmhphejgahfbaaGreatDoorMrowledgerdeletes5
import Derived.Lib.ConvBytes
import Derived.Lib.AppendZeros
import Derived.Lib.AppendZerosOnto
/- Reference 1 and 3: Num, Read, turn. -/
set_option linter.unusedVariables false
set_option linter.unusedSimpArgs false
namespace Go.Proofs.YtlmhphejgahfbaaGreatDoor
open Go.RowKit

theorem turn_gen (x y : W32) (s u : Int) (n m : Nat) (h2 : IntKind.i64.wrap (32 - s) = u) (hs : Op.shift .shr .u32 (U x) .i64 s = pure (.int .u32 (U (x >>> n)))) (ht : Op.shift .shl .u32 (U x) .i64 u = pure (.int .u32 (U (x <<< m))))
    (h3 : bits .or .u32 (U (x >>> n)) (U (x <<< m)) = U y) (w : World) : Calls Tryz.prog 96 #[.int .u32 (U x), .int .i64 s] w fun e w' => e = .returned (.int .u32 (U y)) ∧ ∃ m, w' = w.drewN m := by
  go_enter Tryz.func96, Tryz.ntmps96
  go_wp2_with fail
  go_quiet (fail)
  go_wp2_with fail
  go_ret
  exact ⟨rfl, nq, rfl⟩
theorem shift_shl' (x : W32) (s : Int) (n : Nat) (h : s = n) (hn : n ≤ 32) : Op.shift .shl .u32 (U x) .i64 s = pure (.int .u32 (U (x <<< n))) := by
  subst h
  have : min ((n : Int).toNat) IntKind.u32.bits = n := by rw [Int.toNat_natCast]; exact Nat.min_eq_left hn
  simp only [Op.shift, this, U_shl]
  rw [if_neg (by omega)]
theorem shift_shr' (x : W32) (s : Int) (n : Nat) (h : s = n) (hn : n ≤ 32) : Op.shift .shr .u32 (U x) .i64 s = pure (.int .u32 (U (x >>> n))) := by
  subst h
  have : min ((n : Int).toNat) IntKind.u32.bits = n := by rw [Int.toNat_natCast]; exact Nat.min_eq_left hn
  simp only [Op.shift, this, U_shr]
  rw [if_neg (by omega)]
theorem turn_ok (x y : W32) (s : Int) (n : Nat) (h : s = n) (hn : n ≤ 32) (hy : rr x n = y) (w : World) : Calls Tryz.prog 96 #[.int .u32 (U x), .int .i64 s] w fun e w' => e = .returned (.int .u32 (U y)) ∧ ∃ m, w' = w.drewN m := by
  subst hy
  exact turn_gen x _ s (32 - s) n (32 - n) (IntWalk.i64_in _ (by omega)) (shift_shr' x s n h hn) (shift_shl' x _ _ (by omega) (by omega)) (U_or _ _) w

/-- A number's bytes, the greatest first. -/
def beN (n k : Nat) : Bs := (List.range k).map fun j => UInt8.ofNat (n / 2 ^ (8 * (k - 1 - j)))
theorem beN_len (n k : Nat) : (beN n k).length = k := by unfold beN; simp
theorem beN_get (n k j : Nat) (h : j < k) : (beN n k)[j]'(by rw [beN_len]; exact h) = UInt8.ofNat (n / 2 ^ (8 * (k - 1 - j))) := by simp [beN]
theorem row_u8b (w : World) (F : Nat → Prop) (b : UInt8) : Row Ty.u8 w F [b] [.int .u8 (b.toNat : Int)] := ⟨[.int .u8 (b.toNat : Int)], [], rfl, rfl, rfl⟩

set_option maxHeartbeats 1000000 in
set_option maxRecDepth 100000 in
theorem num_ok {w : World} {n k : Nat} (hn : n < 18446744073709551616) (hk : k ≤ 8) :
    Calls Tryz.prog 94 #[.int .u64 (n : Int), .int .i64 (k : Int)] w fun e w' => ∃ A c, e = .returned (.slice A k c) ∧ Ow Ty.u8 5 w' (fun i => w.heap.size ≤ i) (.slice A k c) (beN n k) ∧ Fr No w w' := by
  have hn0 : (0 : Int) ≤ (n : Int) := Int.natCast_nonneg _
  have hk0 : (0 : Int) ≤ (k : Int) := Int.natCast_nonneg _
  have hk1 : (k : Int) ≤ 8 := by omega
  clear hn
  go_enter Tryz.func94, Tryz.ntmps94
  go_wp2_with fail
  go_loopw [5, 6] (fun v s wr => ∃ i : Nat, i ≤ k ∧ s = .int .i64 (i : Int) ∧ ∃ A c, v = .slice A i c ∧ Hid (Ow Ty.u8 5 wr (fun i => w.heap.size ≤ i) (.slice A i c) ((beN n k).take i) ∧ Fr No w wr)) (fun _ s _ => k - (intOf s).toNat)
  case atStart => exact ⟨0, by omega, rfl, none, 0, rfl, Ow.nil, Fr.refl _ _⟩
  case round =>
    obtain ⟨i, hi, rfl, A, c, rfl, I⟩ := hrel
    have hi0 : (0 : Int) ≤ (i : Int) := Int.natCast_nonneg _
    by_cases hlt : i < k
    · have hi1 : (i : Int) < (k : Int) := by omega
      have hil : i < (beN n k).length := by rw [beN_len]; exact hlt
      have hb := beN_get n k i hlt
      obtain ⟨b, hbb⟩ : ∃ b, UInt8.ofNat (n / 2 ^ (8 * (k - 1 - i))) = b := ⟨_, rfl⟩
      have qb : (b.toNat : Int) = (n : Int) / 2 ^ (8 * (k - 1 - i)) % 256 := by
        rw [← hbb, UInt8.toNat_ofNat', Int.natCast_emod, Int.natCast_ediv, Int.natCast_pow]; rfl
      have hnext : (beN n k).take i ++ [b] = (beN n k).take (i + 1) := by rw [List.take_succ_eq_append_getElem hil, hb, hbb]
      have hlen : ((beN n k).take i).length = i := by rw [List.length_take, beN_len]; omega
      obtain ⟨W1, hW1⟩ : ∃ W1, W1 = wr.alloc (.cells #[.int .u8 ((n : Int) / 2 ^ (8 * (k - 1 - i)) % 256)] 5) := ⟨_, rfl⟩
      have hf1 : Fr No wr W1 := by rw [hW1]; exact (Fr.refl No wr).alloc _
      have hA : At W1 (some ⟨wr.heap.size, 0, none⟩) [.int .u8 (b.toNat : Int)] := by
        rw [hW1, qb]; exact At.block (heap_alloc_new wr _)
      have hO := I.out.1.fr0 hf1
      obtain ⟨A1, c1, w1, hrun, hO1, hg1, _⟩ := run_ow_append (P := Tryz.prog) (ty := 46) (ty' := 46) Ty.u8 hO (.int .u8 0) 1 Tryz.underlying46 info_u8 rfl (by decide) (by decide) 1 (ys := [b]) (row_u8b _ _ b) hA (by simp; omega)
      rw [hlen] at hrun hO1
      rw [hnext] at hO1
      have hf2 : Fr No w w1 := (I.out.2.trans (hf1.mono fun _ _ f => f.elim)).grown hg1 fun k hk => .inr (I.out.1.own hk).1
      have hsz : w.heap.size ≤ W1.heap.size := Nat.le_trans I.out.2.size hf1.size
      have HH := Lib.hid (And.intro hO1 (And.intro hf2 hsz))
      clear hsz
      clear hO1 hf2 hg1 hO hA hf1 hlen hnext qb hbb hb hil
      simp only [List.length_singleton] at hrun HH
      go_wp2_with (at_builtin; rw [← hW1]; refine wpList_plain rfl fun K hK => wp_append_run _ _ _ _ rfl rfl rfl hrun (hK _ _ ?_))
      go_roundw
      case rel => exact ⟨i + 1, by omega, by go_num, A1, c1, rfl, HH.out.1.mono fun k hk _ => by (have := HH.out.2.2; rcases hk with hk | hk <;> omega), HH.out.2.1⟩
      case measure => simp [intOf]; omega
    · obtain rfl : i = k := by omega
      have ht : (beN n i).take i = beN n i := List.take_of_length_le (by rw [beN_len]; omega)
      rw [ht] at I
      clear ht
      go_wp2_with fail
      go_ret
      exact ⟨A, c, rfl, I.out.1, I.out.2⟩

/-- The number that bytes are. -/
def rdN (l : Bs) : Nat := l.foldl (fun x b => 256 * x + b.toNat) 0
theorem rdN_snoc (l : Bs) (b : UInt8) : rdN (l ++ [b]) = 256 * rdN l + b.toNat := by unfold rdN; rw [List.foldl_append]; rfl
theorem rdN_lt' (l : Bs) : ∀ a, l.foldl (fun x (b : UInt8) => 256 * x + b.toNat) a < (a + 1) * 256 ^ l.length := by
  induction l with
  | nil => intro a; simp
  | cons b l ih =>
    intro a
    have h1 := b.toNat_lt
    have h2 := ih (256 * a + b.toNat)
    have h3 : (256 * a + b.toNat + 1) * 256 ^ l.length ≤ ((a + 1) * 256) * 256 ^ l.length := Nat.mul_le_mul_right _ (by omega)
    have h4 : ((a + 1) * 256) * 256 ^ l.length = (a + 1) * 256 ^ (l.length + 1) := by rw [Nat.mul_assoc, Nat.pow_succ, Nat.mul_comm 256 (256 ^ l.length)]
    rw [h4] at h3
    exact Nat.lt_of_lt_of_le h2 h3
theorem rdN_lt (l : Bs) : rdN l < 256 ^ l.length := by have := rdN_lt' l 0; rwa [Nat.zero_add, Nat.one_mul] at this

set_option maxHeartbeats 1000000 in
set_option maxRecDepth 100000 in
theorem read_ok {w : World} {F : Nat → Prop} {A : Option Addr} {c : Nat} {xs : Bs} (h : Rd Ty.u8 w F A xs) (hl : xs.length ≤ 4) :
    Calls Tryz.prog 95 #[.slice A xs.length c] w fun e w' => e = .returned (.int .u64 (rdN xs : Int)) ∧ ∃ m, w' = w.drewN m := by
  have hl4 : (xs.length : Int) ≤ 4 := by omega
  have H := Lib.hid (And.intro h hl)
  clear h hl
  go_enter Tryz.func95, Tryz.ntmps95
  go_wp2_with fail
  go_loopw [3, 4] (fun v s wr => ∃ i : Nat, i ≤ xs.length ∧ s = .int .i64 (i : Int) ∧ ∃ x : Int, v = .int .u64 x ∧ Hid (x = (rdN (xs.take i) : Int) ∧ ∃ m, wr = w.drewN m)) (fun _ s _ => xs.length - (intOf s).toNat)
  case atStart => exact ⟨0, by omega, rfl, 0, rfl, rfl, 0, (World.drewN_zero w).symm⟩
  case round =>
    obtain ⟨i, hi, rfl, x, rfl, I⟩ := hrel
    have hf : Fr No w wr := by obtain ⟨_, m, e⟩ := I.out; rw [e]; exact (Fr.refl No w).drewN m
    have hi0 : (0 : Int) ≤ (i : Int) := Int.natCast_nonneg _
    by_cases hlt : i < xs.length
    · have hi1 : (i : Int) < (xs.length : Int) := by omega
      obtain ⟨ad, rfl, x0⟩ := u8_at (H.out.1.fr0 hf) hlt
      have hnext : (rdN (xs.take (i + 1)) : Int) = 256 * x + (xs[i].toNat : Int) := by
        rw [List.take_succ_eq_append_getElem hlt, rdN_snoc, I.out.1]; omega
      have hx0 : 0 ≤ x := by rw [I.out.1]; omega
      have hx1 : x < 16777216 := by
        have h1 := rdN_lt (xs.take i)
        have h2 : (xs.take i).length ≤ 3 := by rw [List.length_take]; have := H.out.2; omega
        have h3 := Nat.pow_le_pow_right (n := 256) (by decide) h2
        rw [I.out.1]; omega
      obtain ⟨b, hb⟩ : ∃ b, xs[i] = b := ⟨_, rfl⟩
      rw [hb] at x0 hnext
      have hb0 := b.toNat_lt
      obtain ⟨y, hy⟩ : ∃ y : Int, (b.toNat : Int) = y := ⟨_, rfl⟩
      rw [hy] at x0 hnext
      have hy0 : 0 ≤ y := by omega
      have hy1 : y < 256 := by omega
      have HN := Lib.hid hnext
      clear hnext hb hf hb0 hy
      go_wp2_with fail
      go_roundw
      case rel => exact ⟨i + 1, by omega, by go_num, _, rfl, HN.out.symm, I.out.2⟩
      case measure => simp [intOf]; omega
    · obtain rfl : i = xs.length := by omega
      go_wp2_with fail
      go_ret
      exact ⟨by rw [I.out.1, List.take_length]; rfl, I.out.2⟩
end Go.Proofs.YtlmhphejgahfbaaGreatDoor
/- slices.Grow and slices.Concat of three; a text's bytes; what is hashed: LeafBytes, NodeBytes. -/
set_option linter.unusedVariables false
set_option linter.unusedSimpArgs false
namespace Go.Proofs.YtlmhphejgahfbaaGreatDoor
open Go.RowKit

set_option maxHeartbeats 1000000 in
set_option maxRecDepth 100000 in
theorem grow_ok (w : World) (n : Int) (h0 : 0 ≤ n) (h1 : n ≤ 1000000000) :
    Calls Tryz.prog 178 #[.slice none 0 0, .int .i64 n] w fun e w' => ∃ A c, e = .returned (.slice A 0 c) ∧ Ow Ty.u8 5 w' (fun i => w.heap.size ≤ i) (.slice A 0 c) ([] : Bs) ∧ Fr No w w' := by
  obtain ⟨m, rfl⟩ := Int.eq_ofNat_of_zero_le h0
  by_cases hm : m = 0
  · subst hm
    go_enter Tryz.func178, Tryz.ntmps178
    go_wp2_with fail
    go_ret
    exact ⟨none, 0, rfl, Ow.nil, Fr.refl _ _⟩
  · obtain ⟨i0, hi0, hz0⟩ := Option.map_eq_some_iff.1 info_u8
    simp only [Prod.mk.injEq] at hz0
    obtain ⟨hz1, hz2, hz3⟩ := hz0
    have hfit : Builtin.nextslicecap (0 + m) 0 * i0.bytes ≤ 281474976710656 := by
      rw [hz3]; unfold Builtin.nextslicecap
      rw [if_pos (by omega)]; omega
    have hrun := Lib.run_append_grow_zeros (P := Tryz.prog) w 46 3 46 5 i0 (.int .u8 0) .i64 .i64 Tryz.underlying46 Tryz.underlying3 hi0 hz1 none 0 0 []
      (by simp [Builtin.firstCells]) m (by omega) (by omega) (by omega) (by omega) (by rw [hz3]; omega) hfit
    rw [Nat.zero_add] at hrun
    have hge := grownCap_ge w m 0 5
    have hle := grownCap_le_maxLen w m 0 5 (by unfold maxLen; omega)
    obtain ⟨cap, hcap⟩ : ∃ cap, grownCap w m 0 5 = cap := ⟨_, rfl⟩
    rw [hcap] at hrun hge hle
    obtain ⟨cur, hcur⟩ : ∃ cur, (([] : List Value).toArray ++ Builtin.zeroCells (Value.int .u8 0).cells m ++ Builtin.zeroCells (Value.int .u8 0).cells (cap - m)) = cur := ⟨_, rfl⟩
    have hcs : cur.size = cap * 1 := by
      rw [← hcur]; simp [Builtin.zeroCells, Value.cells]; omega
    rw [hcur] at hrun
    have hown : Ow Ty.u8 5 (w.drew.alloc (.cells cur 5)) (fun i => w.heap.size ≤ i) (.slice (some ⟨w.heap.size, 0, none⟩) 0 cap) ([] : Bs) := by
      refine ⟨[], ⟨rfl, .inr ⟨w.heap.size, cap, cur, rfl, Nat.zero_le _, heap_alloc_new w.drew _, Nat.zero_le _, hle, hcs, by simp⟩⟩, rfl, fun k hk => ?_⟩
      simp [Value.ownBlock] at hk; omega
    have hfr : Fr No w (w.drew.alloc (.cells cur 5)) := (Fr.refl No w).drew.alloc _
    have hcap2 : (cap : Int) ≤ 9223372036854775807 := by unfold maxLen at hle; omega
    have hmc : (m : Int) ≤ (cap : Int) := by omega
    have hm1 : (1 : Int) ≤ (m : Int) := by omega
    obtain ⟨W, hW⟩ : ∃ W, W = w.drew.alloc (.cells cur 5) := ⟨_, rfl⟩
    rw [← hW] at hrun hown hfr
    have HH := Lib.hid (And.intro hown hfr)
    clear hown hfr hW hcs hcur hge hle hcap hfit hi0 hz1 hz2 hz3 hcap2
    go_enter Tryz.func178, Tryz.ntmps178
    go_wp2_with (at_builtin; refine Lib.wpList_append_run _ rfl _ _ _ _ rfl _ _ rfl rfl _ _ hrun ?_)
    all_goals
      go_ret
      exact ⟨_, cap, rfl, HH.out.1, HH.out.2⟩

set_option maxHeartbeats 2000000 in
set_option maxRecDepth 100000 in
theorem concat3 {w : World} {g : Nat} {tt : TypeId} {A1 A2 A3 : Option Addr} {c1 c2 c3 : Nat} {x y z : Bs} (hb : w.heap[g]? = some (.cells #[.slice A1 x.length c1, .slice A2 y.length c2, .slice A3 z.length c3] tt (0, 0)))
    (h1 : Rd Ty.u8 w (fun _ => True) A1 x) (h2 : Rd Ty.u8 w (fun _ => True) A2 y) (h3 : Rd Ty.u8 w (fun _ => True) A3 z) (hl : x.length + y.length + z.length ≤ 1000000000) :
    Calls Tryz.prog 127 #[.slice (some ⟨g, 0, none⟩) 3 3] w fun e w' => ∃ A c, e = .returned (.slice A (x ++ y ++ z).length c) ∧ Ow Ty.u8 5 w' (fun i => w.heap.size ≤ i) (.slice A (x ++ y ++ z).length c) (x ++ y ++ z) ∧ Fr No w w' := by
  have k0 := blk_cell hb 0
  have k1 := blk_cell hb 1
  have k2 := blk_cell hb 2
  simp at k0 k1 k2
  have n1 : (x.length : Int) ≤ 1000000000 := by omega
  have n2 : (y.length : Int) ≤ 1000000000 := by omega
  have n3 : (z.length : Int) ≤ 1000000000 := by omega
  have HG := Lib.hid (fun w => grow_ok w ((x.length : Int) + (y.length : Int) + (z.length : Int)) (by omega) (by omega))
  have HH := Lib.hid (And.intro h1 (And.intro h2 (And.intro h3 (And.intro hl hb))))
  clear h1 h2 h3 hl hb
  have e1 : (x ++ y ++ z).length = x.length + y.length + z.length := by rw [List.length_append, List.length_append]
  rw [e1]
  clear e1
  go_enter Tryz.func127, Tryz.ntmps127
  go_wp2_with fail
  refine wp_loop_rounds 4 ?_
  rw [rounds_succ]
  go_wp2_with fail
  rw [rounds_succ]
  go_wp2_with fail
  rw [rounds_succ]
  go_wp2_with fail
  rw [rounds_succ]
  go_wp2_with fail
  refine (HG.out _).mono ?_
  rintro e1 w1 ⟨A0, c0, rfl, hO, hf⟩
  have k0 := hf.cell k0 (fun f => f)
  have k1 := hf.cell k1 (fun f => f)
  have k2 := hf.cell k2 (fun f => f)
  have H0 := Lib.hid (And.intro hO hf)
  clear hO hf
  go_wp2_with fail
  refine wp_loop_rounds 4 ?_
  rw [rounds_succ]
  obtain ⟨cs1, hrow1, hat1⟩ := (HH.out.1.fr0 H0.out.2).at
  obtain ⟨A4, c4, w4, hrun4, hO4, hg4, _⟩ := run_ow_append (P := Tryz.prog) (ty := 46) (ty' := 46) Ty.u8 H0.out.1 (.int .u8 0) 1 Tryz.underlying46 info_u8 rfl (by decide) (by decide) c1 (ys := x) (hrow1.imp fun _ _ h => h) hat1 (by have := HH.out.2.2.2.1; simp; omega)
  simp only [List.length_nil, Nat.zero_add, List.nil_append] at hrun4 hO4
  have hf4 : Fr No w w4 := H0.out.2.grown hg4 fun k hk => .inr (H0.out.1.own hk).1
  have hO4' : Ow Ty.u8 5 w4 (fun i => w.heap.size ≤ i) (.slice A4 x.length c4) x := hO4.mono fun i hi _ => by have := H0.out.2.size; rcases hi with h | h <;> omega
  have k0' := hf4.cell (blk_cell HH.out.2.2.2.2 0) (fun f => f)
  have H4 := Lib.hid (And.intro hO4' hf4)
  clear hO4 hO4' hf4 hg4 hrow1 hat1 k0'
  go_wp2_with (at_builtin; refine wpList_plain rfl fun K hK => wp_append_run _ _ _ _ rfl rfl rfl hrun4 (hK _ _ ?_))
  clear hrun4
  have k1 := H4.out.2.cell (blk_cell HH.out.2.2.2.2 1) (fun f => f)
  simp at k1
  rw [rounds_succ]
  obtain ⟨cs2, hrow2, hat2⟩ := (HH.out.2.1.fr0 H4.out.2).at
  obtain ⟨A5, c5, w5, hrun5, hO5, hg5, _⟩ := run_ow_append (P := Tryz.prog) (ty := 46) (ty' := 46) Ty.u8 H4.out.1 (.int .u8 0) 1 Tryz.underlying46 info_u8 rfl (by decide) (by decide) c2 (ys := y) (hrow2.imp fun _ _ h => h) hat2 (by have := HH.out.2.2.2.1; omega)
  have hf5 : Fr No w w5 := H4.out.2.grown hg5 fun k hk => .inr (H4.out.1.own hk).1
  have hO5' : Ow Ty.u8 5 w5 (fun i => w.heap.size ≤ i) (.slice A5 (x.length + y.length) c5) (x ++ y) := hO5.mono fun i hi _ => by have := H4.out.2.size; rcases hi with h | h <;> omega
  have H5 := Lib.hid (And.intro hO5' hf5)
  clear hO5 hO5' hf5 hg5 hrow2 hat2
  go_wp2_with (at_builtin; refine wpList_plain rfl fun K hK => wp_append_run _ _ _ _ rfl rfl rfl hrun5 (hK _ _ ?_))
  clear hrun5
  have k2 := H5.out.2.cell (blk_cell HH.out.2.2.2.2 2) (fun f => f)
  simp at k2
  rw [rounds_succ]
  obtain ⟨cs3, hrow3, hat3⟩ := (HH.out.2.2.1.fr0 H5.out.2).at
  obtain ⟨A6, c6, w6, hrun6, hO6, hg6, _⟩ := run_ow_append (P := Tryz.prog) (ty := 46) (ty' := 46) Ty.u8 H5.out.1 (.int .u8 0) 1 Tryz.underlying46 info_u8 rfl (by decide) (by decide) c3 (ys := z) (hrow3.imp fun _ _ h => h) hat3 (by have := HH.out.2.2.2.1; rw [List.length_append]; omega)
  rw [List.length_append] at hrun6 hO6
  have hf6 : Fr No w w6 := H5.out.2.grown hg6 fun k hk => .inr (H5.out.1.own hk).1
  have hO6' : Ow Ty.u8 5 w6 (fun i => w.heap.size ≤ i) (.slice A6 (x.length + y.length + z.length) c6) (x ++ y ++ z) := hO6.mono fun i hi _ => by have := H5.out.2.size; rcases hi with h | h <;> omega
  have H6 := Lib.hid (And.intro hO6' hf6)
  clear hO6 hO6' hf6 hg6 hrow3 hat3
  go_wp2_with (at_builtin; refine wpList_plain rfl fun K hK => wp_append_run _ _ _ _ rfl rfl rfl hrun6 (hK _ _ ?_))
  clear hrun6
  rw [rounds_succ]
  go_wp2_with fail
  go_ret
  exact ⟨A6, c6, rfl, H6.out.1, H6.out.2⟩

/-- A text's bytes, in new memory. -/
def txtW (w : World) (s : ByteArray) : World := Lib.bytesWorld w 5 s
def txtC (w : World) (s : ByteArray) : Nat := grownCap w s.size 0 5
theorem run_txt (w : World) (s : ByteArray) : (convert 9 46 (.string s)).run Tryz.prog w = .ok (.slice (some ⟨w.heap.size, 0, none⟩) s.size (txtC w s)) (txtW w s) := by
  have := Lib.run_convert_string_bytes (P := Tryz.prog) w 9 46 5 s Tryz.underlying9 Tryz.underlying46 Tryz.underlying5
  rw [this]; simp [txtC, txtW]
theorem txt_fr (w : World) (s : ByteArray) : Fr No w (txtW w s) := ⟨by simp [txtW, Lib.bytesWorld, World.freeze, World.alloc, World.drew, -World.alloc_eq, -World.drew_eq], by simp [txtW, Lib.bytesWorld, World.freeze, World.alloc, World.drew, -World.alloc_eq, -World.drew_eq], by simp [txtW, Lib.bytesWorld, World.freeze, World.alloc, World.drew, -World.alloc_eq, -World.drew_eq], by rw [show (txtW w s).heap.size = w.heap.size + 1 from Lib.bytesWorld_size w _ s]; omega, fun k hk _ => Lib.bytesWorld_at_old w _ s k hk⟩
theorem txt_rd (w : World) (s : ByteArray) (hs : s.size ≤ 1000000000) : Rd Ty.u8 (txtW w s) (fun i => w.heap.size ≤ i) (some ⟨w.heap.size, 0, none⟩) s.data.toList := by
  refine ⟨by simp; omega, _, row_bytes s.data.toList, fun j u hu => ⟨_, rfl, Nat.le_refl _, ?_⟩⟩
  have hj : j < s.size := by have := (List.getElem?_eq_some_iff.1 hu).1; simpa using this
  rw [add0]
  have := Lib.bytesWorld_cell w 5 s j hj
  show (Lib.bytesWorld w 5 s).cell? _ = _
  rw [this, ← hu]
  simp [List.getD, hj]
theorem txt_size (w : World) (s : ByteArray) : (txtW w s).heap.size = w.heap.size + 1 := Lib.bytesWorld_size w _ s

/-- What is hashed. -/
def keyB (s : ByteArray) : Bs := s.data.toList
def leafB (key : ByteArray) (row : Bs) : Bs := ([1] ++ beN key.size 4) ++ keyB key ++ row
def nodeB (l r : ByteArray) : Bs := [2] ++ keyB l ++ keyB r
theorem keyB_len (s : ByteArray) : (keyB s).length = s.size := by simp [keyB]

theorem rd_new {w W : World} {t : TypeId} {cs : Array Value} {p : Bs} (hf : Fr No (w.alloc (.cells cs t)) W) (h : cs.toList = p.map fun b => Value.int .u8 (b.toNat : Int)) (hp : p.length ≤ 1000000000) : Rd Ty.u8 W (fun _ => True) (some ⟨w.heap.size, 0, none⟩) p := by
  refine Rd.fr0 ⟨by omega, _, row_bytes p, fun j u hu => ⟨_, rfl, trivial, ?_⟩⟩ hf
  rw [add0, blk_cell (heap_alloc_new w _), ← Array.getElem?_toList, h]
  exact hu
theorem txt_rd' {w W : World} {s : ByteArray} (hf : Fr No (txtW w s) W) (hs : s.size ≤ 1000000000) : Rd Ty.u8 W (fun _ => True) (some ⟨w.heap.size, 0, none⟩) (keyB s) := ((txt_rd w s hs).fr0 hf).mono fun _ _ _ => trivial

set_option maxHeartbeats 2000000 in
set_option maxRecDepth 100000 in
theorem node_bytes (w : World) (l r : ByteArray) (hl : l.size ≤ 1000) (hr : r.size ≤ 1000) :
    Calls Tryz.prog 269 #[.string l, .string r] w fun e w' => ∃ A c, e = .returned (.slice A (nodeB l r).length c) ∧ Ow Ty.u8 5 w' (fun i => w.heap.size ≤ i) (.slice A (nodeB l r).length c) (nodeB l r) ∧ Fr No w w' := by
  have kc := run_txt
  obtain ⟨W1, hW1⟩ : ∃ W1, W1 = w.alloc (.cells #[.int .u8 2] 5) := ⟨_, rfl⟩
  have hs1 : W1.heap.size = w.heap.size + 1 := by rw [hW1]; simp
  have hf1 : Fr No w W1 := by rw [hW1]; exact (Fr.refl No w).alloc _
  obtain ⟨W2, hW2⟩ : ∃ W2, W2 = txtW W1 l := ⟨_, rfl⟩
  have hf2 : Fr No W1 W2 := by rw [hW2]; exact txt_fr _ _
  obtain ⟨W3, hW3⟩ : ∃ W3, W3 = txtW W2 r := ⟨_, rfl⟩
  have hf3 : Fr No W2 W3 := by rw [hW3]; exact txt_fr _ _
  have hcc := concat3 (w := W3.alloc (.cells #[.slice (some ⟨w.heap.size, 0, none⟩) 1 1, .slice (some ⟨w.heap.size + 1, 0, none⟩) l.size (txtC W1 l), .slice (some ⟨W2.heap.size, 0, none⟩) r.size (txtC W2 r)] 46))
    (x := [2]) (y := keyB l) (z := keyB r) (by rw [keyB_len, keyB_len]; exact heap_alloc_new W3 _)
    (rd_new (w := w) (t := 5) (cs := #[.int .u8 2]) (by rw [← hW1]; exact ((hf2.trans (hf3.mono fun _ _ f => f.elim)).alloc _)) rfl (by simp))
    (by rw [← hs1]; exact txt_rd' (by rw [← hW2]; exact hf3.alloc _) (by omega))
    (txt_rd' (by rw [← hW3]; exact (Fr.refl No W3).alloc _) (by omega)) (by rw [keyB_len, keyB_len]; simp; omega)
  have hff : Fr No w (W3.alloc (.cells #[.slice (some ⟨w.heap.size, 0, none⟩) 1 1, .slice (some ⟨w.heap.size + 1, 0, none⟩) l.size (txtC W1 l), .slice (some ⟨W2.heap.size, 0, none⟩) r.size (txtC W2 r)] 46)) := (hf1.trans ((hf2.trans (hf3.mono fun _ _ f => f.elim)).mono fun _ _ f => f.elim)).alloc _
  rw [hW3, hW2, hW1] at hcc hff
  obtain ⟨L, hL⟩ : ∃ L, nodeB l r = L := ⟨_, rfl⟩
  rw [show [2] ++ keyB l ++ keyB r = nodeB l r from rfl, hL] at hcc
  rw [hL]
  clear hL
  have H := Lib.hid (And.intro hcc hff)
  clear hcc hff hW1 hW2 hW3 hs1 hf1 hf2 hf3 hl hr
  go_enter Tryz.func269, Tryz.ntmps269
  go_wp2_with fail
  refine H.out.1.mono ?_
  rintro e w1 ⟨A, c, rfl, hO, hf⟩
  have H1 := Lib.hid (And.intro hO (H.out.2.trans (hf.mono fun _ _ f => f.elim)))
  have hsz := H.out.2.size
  have H2 := Lib.hid hsz
  clear hO hf hsz
  go_wp2_with fail
  go_ret
  exact ⟨A, c, rfl, H1.out.1.mono fun i hi _ => Nat.le_trans H2.out hi, H1.out.2⟩
theorem beN4 (n : Nat) (h : n ≤ 1000) : ([1] ++ beN n 4 : Bs).map (fun b => Value.int .u8 (b.toNat : Int)) = [Value.int .u8 1, .int .u8 ((n : Int) / 16777216), .int .u8 ((n : Int) / 65536), .int .u8 ((n : Int) / 256), .int .u8 ((n : Int) % 256)] := by
  show [_, _, _, _, _] = _
  have e : ∀ x : Nat, ((UInt8.ofNat x).toNat : Int) = (x : Int) % 256 := fun x => by rw [UInt8.toNat_ofNat']; omega
  simp only [e]
  congr 1; congr 1
  · congr 1; simp; omega
  congr 1
  · congr 1; simp; omega
  congr 1
  · congr 1; simp; omega
  congr 1
  · congr 1; simp
set_option maxHeartbeats 2000000 in
set_option maxRecDepth 100000 in
theorem leaf_bytes {w : World} {F : Nat → Prop} {A : Option Addr} {c : Nat} {row : Bs} (key : ByteArray) (h : Rd Ty.u8 w F A row) (hk : key.size ≤ 1000) (hr : row.length ≤ 100000) :
    Calls Tryz.prog 250 #[.string key, .slice A row.length c] w fun e w' => ∃ A c, e = .returned (.slice A (leafB key row).length c) ∧ Ow Ty.u8 5 w' (fun i => w.heap.size ≤ i) (.slice A (leafB key row).length c) (leafB key row) ∧ Fr No w w' := by
  have kc := run_txt
  have hk0 : (0 : Int) ≤ (key.size : Int) := Int.natCast_nonneg _
  have hk1 : (key.size : Int) ≤ 1000 := by omega
  obtain ⟨W1, hW1⟩ : ∃ W1, W1 = w.alloc (.cells #[.int .u8 1, .int .u8 ((key.size : Int) / 16777216), .int .u8 ((key.size : Int) / 65536), .int .u8 ((key.size : Int) / 256), .int .u8 ((key.size : Int) % 256)] 5) := ⟨_, rfl⟩
  have hs1 : W1.heap.size = w.heap.size + 1 := by rw [hW1]; simp
  have hf1 : Fr No w W1 := by rw [hW1]; exact (Fr.refl No w).alloc _
  obtain ⟨W2, hW2⟩ : ∃ W2, W2 = txtW W1 key := ⟨_, rfl⟩
  have hf2 : Fr No W1 W2 := by rw [hW2]; exact txt_fr _ _
  have hff : Fr No w (W2.alloc (.cells #[.slice (some ⟨w.heap.size, 0, none⟩) 5 5, .slice (some ⟨w.heap.size + 1, 0, none⟩) key.size (txtC W1 key), .slice A row.length c] 46)) := (hf1.trans (hf2.mono fun _ _ f => f.elim)).alloc _
  have hcc := concat3 (w := W2.alloc (.cells #[.slice (some ⟨w.heap.size, 0, none⟩) 5 5, .slice (some ⟨w.heap.size + 1, 0, none⟩) key.size (txtC W1 key), .slice A row.length c] 46))
    (x := [1] ++ beN key.size 4) (y := keyB key) (z := row) (by rw [keyB_len]; exact heap_alloc_new W2 _)
    (rd_new (w := w) (t := 5) (cs := #[.int .u8 1, .int .u8 ((key.size : Int) / 16777216), .int .u8 ((key.size : Int) / 65536), .int .u8 ((key.size : Int) / 256), .int .u8 ((key.size : Int) % 256)]) (by rw [← hW1]; exact hf2.alloc _) (beN4 _ hk).symm (by rw [List.length_append, beN_len]; decide))
    (by rw [← hs1]; exact txt_rd' (by rw [← hW2]; exact (Fr.refl No W2).alloc _) (by omega))
    ((h.fr0 hff).mono fun _ _ _ => trivial) (by rw [keyB_len, List.length_append, beN_len]; simp; omega)
  rw [hW2, hW1] at hcc hff
  obtain ⟨L, hL⟩ : ∃ L, leafB key row = L := ⟨_, rfl⟩
  rw [show [1] ++ beN key.size 4 ++ keyB key ++ row = leafB key row from rfl, hL] at hcc
  rw [hL]
  clear hL
  have H := Lib.hid (And.intro hcc hff)
  clear hcc hff hW1 hW2 hs1 hf1 hf2 hr hk h
  go_enter Tryz.func250, Tryz.ntmps250
  go_wp2_with fail
  refine H.out.1.mono ?_
  rintro e w1 ⟨A, c, rfl, hO, hf⟩
  have H1 := Lib.hid (And.intro hO (H.out.2.trans (hf.mono fun _ _ f => f.elim)))
  have hsz := H.out.2.size
  have H2 := Lib.hid hsz
  clear hO hf hsz
  go_wp2_with fail
  go_ret
  exact ⟨A, c, rfl, H1.out.1.mono fun i hi _ => Nat.le_trans H2.out hi, H1.out.2⟩
end Go.Proofs.YtlmhphejgahfbaaGreatDoor
/- Tables: kinds of data; the reference's Tables of nothing. -/
set_option linter.unusedVariables false
set_option linter.unusedSimpArgs false
namespace Go.Proofs.YtlmhphejgahfbaaGreatDoor
open Go.RowKit

theorem Fr.next {F G : Nat → Prop} {a b c : World} (h : Fr F a b) (k : Fr G b c) (hk : ∀ i, i < a.heap.size → G i → F i) : Fr F a c :=
  ⟨k.os.trans h.os, k.tape.trans h.tape, k.output.trans h.output, Nat.le_trans h.size k.size, fun i hi hn => (k.block i (Nat.lt_of_lt_of_le hi h.size) (fun g => hn (hk i hi g))).trans (h.block i hi hn)⟩
/-- A text of one byte. -/
def one (b : UInt8) : ByteArray := ⟨#[b]⟩
abbrev Col := ByteArray × UInt8 × Bool
abbrev tCol : Ty Col := Ty.pair Ty.str (Ty.pair Ty.u8 Ty.bool)
abbrev Tab := ByteArray × List Col × Int
abbrev tTab : Ty Tab := Ty.pair Ty.str (Ty.pair (Ty.slice tCol) (Ty.int .i64))
theorem info_tab : (Tryz.prog.info? 54).map (fun i => (i.zero, i.size, i.bytes)) = some (some (.agg #[.string ⟨#[]⟩, .slice none 0 0, .int .i64 0]), 3, 48) := by kernel_rfl
def two (a b : UInt8) : ByteArray := ⟨#[a, b]⟩
theorem run_two_at (w' : World) (g : Nat) (a b : UInt8) {x y : Int} (hx : x = (a.toNat : Int)) (hy : y = (b.toNat : Int)) (hb : w'.heap[g]? = some (.cells #[.int .u8 x, .int .u8 y] 5 (0, 0))) : (convert 46 9 (.slice (some ⟨g, 0, none⟩) 2 2)).run Tryz.prog w' = .ok (.string (two a b)) w' := by
  subst hx hy
  have hrd : Rd Ty.u8 w' (fun _ => True) (some ⟨g, 0, none⟩) [a, b] := ⟨by simp, _, row_bytes [a, b], fun j v hv => ⟨_, rfl, trivial, by rw [add0, blk_cell hb, ← Array.getElem?_toList]; exact hv⟩⟩
  exact run_str (c := 2) (n := 2) hrd rfl
/-- The first table of Tables(nil). -/
def tab0 : Tab := (two 116 48, [(one 97, 1, false)], 1)

set_option maxHeartbeats 600000 in
set_option maxRecDepth 100000 in
theorem tables_nil_ow {w : World} : Calls Tryz.prog 9 #[.slice none 0 0] w fun e w' => ∃ A c, e = .returned (.slice A 1 c) ∧ Ow tTab 54 w' (fun i => w.heap.size ≤ i) (.slice A 1 c) [tab0] ∧ Fr No w w' := by
  have hw := Lib.hid (Fr.refl No w)
  have hconv : (convert 46 9 (.slice (some ⟨w.heap.size + 1, 0, none⟩) 2 2)).run Tryz.prog ((w.alloc (.cells #[.slice none 0 0, .int .u8 0] 89)).alloc (.cells #[.int .u8 116, .int .u8 48] 5)) = .ok (.string (two 116 48)) _ := run_two_at _ _ 116 48 (x := 116) (y := 48) rfl rfl (blk_two2 _ _ _)
  go_enter Tryz.func9, Tryz.ntmps9
  go_wp2_with fail
  refine wp_loop_rounds 2 ?_
  rw [rounds_succ]
  go_wp2_with fail
  obtain ⟨W, hW⟩ : ∃ W, W = ((((w.alloc (.cells #[.slice none 0 0, .int .u8 0] 89)).alloc (.cells #[.int .u8 116, .int .u8 48] 5)).alloc (.cells #[.string (one 97), .int .u8 1, .bool false] 91)).alloc (.cells #[.string (two 116 48), .slice (some ⟨w.heap.size + 1 + 1, 0, none⟩) 1 1, .int .i64 1] 54)) := ⟨_, rfl⟩
  have hsz : W.heap.size = w.heap.size + 4 := by rw [hW]; simp
  have bt : W.heap[w.heap.size + 1 + 1 + 1]? = some (.cells #[.string (two 116 48), .slice (some ⟨w.heap.size + 1 + 1, 0, none⟩) 1 1, .int .i64 1] 54) := by rw [hW]; have := heap_alloc_new (((w.alloc (.cells #[.slice none 0 0, .int .u8 0] 89)).alloc (.cells #[.int .u8 116, .int .u8 48] 5)).alloc (.cells #[.string (one 97), .int .u8 1, .bool false] 91)) (.cells #[.string (two 116 48), .slice (some ⟨w.heap.size + 1 + 1, 0, none⟩) 1 1, .int .i64 1] 54); simpa using this
  have bc : W.heap[w.heap.size + 1 + 1]? = some (.cells #[.string (one 97), .int .u8 1, .bool false] 91) := by rw [hW, Below.heap_alloc _ _ _ (by simp)]; have := heap_alloc_new ((w.alloc (.cells #[.slice none 0 0, .int .u8 0] 89)).alloc (.cells #[.int .u8 116, .int .u8 48] 5)) (.cells #[.string (one 97), .int .u8 1, .bool false] 91); simpa using this
  have bf : W.heap[w.heap.size]? = some (.cells #[.slice none 0 0, .int .u8 0] 89) := by rw [hW, Below.heap_alloc _ _ _ (by simp; omega), Below.heap_alloc _ _ _ (by simp; omega), Below.heap_alloc _ _ _ (by simp)]; exact heap_alloc_new _ _
  have hf : Fr No w W := by rw [hW]; exact ((((Fr.refl No w).alloc _).alloc _).alloc _).alloc _
  have t0 := blk_cell bt 0
  have t1 := blk_cell bt 1
  have t2 := blk_cell bt 2
  have z2 := blk_frozen bt 2
  have f0 := blk_cell bf 0
  have f1 := blk_cell bf 1
  simp at t0 t1 t2 f0 f1
  have hkeep := Lib.hid (And.intro hsz (And.intro bt (And.intro bc hf)))
  rw [show (⟨#[97]⟩ : ByteArray) = one 97 from rfl]
  rw [← hW]
  clear hW hconv bt bc bf hf hsz hw
  refine wp_loop_rounds 1 ?_
  rw [rounds_succ]
  go_wp2_with fail
  obtain ⟨V, hV⟩ : ∃ V, V = W.setCell ⟨w.heap.size + 1 + 1 + 1, 2, none⟩ (.int .i64 1) := ⟨_, rfl⟩
  have hb : V.heap[w.heap.size + 1 + 1 + 1]? = some (.cells #[.string (two 116 48), .slice (some ⟨w.heap.size + 1 + 1, 0, none⟩) 1 1, .int .i64 1] 54) := by rw [hV]; exact blk_set hkeep.out.2.1 2 _
  have hc : V.heap[w.heap.size + 1 + 1]? = some (.cells #[.string (one 97), .int .u8 1, .bool false] 91) := by rw [hV]; exact blk_far hkeep.out.2.2.1 (by simp) _
  have hfV : Fr No w V := by rw [hV]; exact hkeep.out.2.2.2.set _ (.inr (by simp; omega)) _
  have hszV : V.heap.size = w.heap.size + 4 := by rw [hV]; simpa using hkeep.out.1
  have v0 := blk_cell hb 0
  have v1 := blk_cell hb 1
  have v2 := blk_cell hb 2
  have hff : V.heap[w.heap.size]? = W.heap[w.heap.size]? := by rw [hV]; exact Below.heap_setCell _ _ _ _ (by simp; omega)
  have g0 : V.cell? ⟨w.heap.size, 0, none⟩ = some (.slice none 0 0) := by rw [← f0]; unfold World.cell?; simp only [hff]
  simp at v0 v1 v2
  rw [← hV]
  obtain ⟨W2, hW2⟩ : ∃ W2, W2 = V.alloc (.cells #[.string (two 116 48), .slice (some ⟨w.heap.size + 1 + 1, 0, none⟩) 1 1, .int .i64 1] 54) := ⟨_, rfl⟩
  have hf2 : Fr No V W2 := by rw [hW2]; exact (Fr.refl No V).alloc _
  have hA : At W2 (some ⟨V.heap.size, 0, none⟩) [.string (two 116 48), .slice (some ⟨w.heap.size + 1 + 1, 0, none⟩) 1 1, .int .i64 1] := by rw [hW2]; exact At.block (heap_alloc_new V _)
  have hcol : Rd tCol V (fun i => w.heap.size ≤ i) (some ⟨w.heap.size + 1 + 1, 0, none⟩) [(one 97, 1, false)] :=
    ⟨by simp, [.string (one 97), .int .u8 1, .bool false], Row.single (t := tCol) ⟨[.string (one 97)], [.int .u8 1, .bool false], rfl, rfl, [.int .u8 1], [.bool false], rfl, rfl, rfl⟩, fun j u hu => ⟨_, rfl, by simp; omega, by rw [add0, blk_cell hc, ← Array.getElem?_toList]; exact hu⟩⟩
  have hrow : Row tTab W2 (fun i => w.heap.size ≤ i ∧ (Value.slice none 0 0).ownBlock ≠ some i) [tab0] [.string (two 116 48), .slice (some ⟨w.heap.size + 1 + 1, 0, none⟩) 1 1, .int .i64 1] :=
    Row.single (t := tTab) ⟨[.string (two 116 48)], [.slice (some ⟨w.heap.size + 1 + 1, 0, none⟩) 1 1, .int .i64 1], rfl, rfl, [.slice (some ⟨w.heap.size + 1 + 1, 0, none⟩) 1 1], [.int .i64 1], rfl, ⟨_, 1, rfl, Nat.le_refl _, (hcol.fr0 hf2).mono fun i hi _ => ⟨hi, by simp [Value.ownBlock]⟩⟩, rfl⟩
  obtain ⟨A1, c1, w1, hrun, hO, hg, _⟩ := run_ow_append (P := Tryz.prog) (ty := 27) (ty' := 27) tTab (Ow.nil (F := fun i => w.heap.size ≤ i)) (.agg #[.string ⟨#[]⟩, .slice none 0 0, .int .i64 0]) 48 Tryz.underlying27 info_tab rfl (by decide) (by decide) 1 (ys := [tab0]) hrow hA (by simp)
  simp only [List.length_nil, Nat.zero_add, List.nil_append, List.length_singleton] at hrun hO
  rw [hszV] at hrun
  have hO' : Ow tTab 54 w1 (fun i => w.heap.size ≤ i) (.slice A1 1 c1) [tab0] := hO.mono fun i hi _ => by
    have := hf2.size
    rcases hi with hi | hi <;> omega
  have HF := Lib.hid (And.intro hO' ((hfV.next hf2 (fun _ _ f => f.elim)).grown hg fun k hk => by simp [Value.ownBlock] at hk))
  clear hb hc hfV hff hf2 hcol hrow hO hO' hg hV hA hkeep t0 t1 t2 f0 f1 z2
  refine wp_loop_rounds 1 ?_
  rw [rounds_succ]
  go_wp2_with (at_builtin; rw [← hW2]; refine wpList_plain rfl fun K hK => wp_append_run _ _ _ _ rfl rfl rfl hrun (hK _ _ ?_))
  rw [rounds_succ]
  go_wp2_with fail
  go_ret
  exact ⟨A1, c1, rfl, HF.out.1, HF.out.2⟩
theorem tables_nil {w : World} : Calls Tryz.prog 9 #[.slice none 0 0] w fun e w' => ∃ A c, e = .returned (.slice A 1 c) ∧ 1 ≤ c ∧ Rd tTab w' (fun i => w.heap.size ≤ i) A [tab0] ∧ Fr No w w' :=
  tables_nil_ow.mono fun e w' ⟨A, c, he, ho, hf⟩ => ⟨A, c, he, ho.rd.2.1, ho.rd.2.2, hf⟩
end Go.Proofs.YtlmhphejgahfbaaGreatDoor
