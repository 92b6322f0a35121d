/- Texts of this claim, one behind the other: BytesN, Key, Put. -/
import Derived.Test.YtlmhphejgahfbaaGreatDoorMrowledgerfirst7
import Derived.Test.YtlmhphejgahfbaaGreatDoorMrowledgerfirst17
import Derived.Test.YtlmhphejgahfbaaGreatDoorMrowledgerfirst19
import Derived.Test.YtlmhphejgahfbaaGreatDoorMrowledgerfirst16
/- Numbers' bytes: record.number; order.one, value.Encode of a number. -/
set_option linter.unusedVariables false
set_option linter.unusedSimpArgs false
namespace Go.Proofs.YtlmhphejgahfbaaGreatDoor
open Go.RowKit

theorem top_xor (x : Nat) (h : x < 18446744073709551616) : x ^^^ 9223372036854775808 = (x + 9223372036854775808) % 18446744073709551616 := by
  apply Nat.eq_of_testBit_eq
  intro i
  rw [show (18446744073709551616 : Nat) = 2 ^ 64 from rfl, show (9223372036854775808 : Nat) = 2 ^ 63 from rfl, Nat.testBit_mod_two_pow, Nat.testBit_xor, Nat.testBit_two_pow, Nat.add_comm]
  rcases Nat.lt_trichotomy i 63 with hi | hi | hi
  · rw [Nat.testBit_two_pow_add_gt hi]
    simp [show i < 64 by omega, show ¬ 63 = i by omega]
  · subst hi
    rw [Nat.testBit_two_pow_add_eq]
    simp
  · have hx : x.testBit i = false := Nat.testBit_lt_two_pow (Nat.lt_of_lt_of_le h (Nat.pow_le_pow_right (n := 2) (by omega) (show 64 ≤ i by omega)))
    simp [show ¬ i < 64 by omega, show ¬ 63 = i by omega, hx]
/-- A number with its sign turned. -/
def keyN (n : Int) : Nat := (n + 9223372036854775808).toNat
theorem keyN_lt {n : Int} (h : n < 9223372036854775808) : keyN n < 18446744073709551616 := by unfold keyN; omega
theorem xor_sign (n : Int) (h0 : -9223372036854775808 ≤ n) (h1 : n < 9223372036854775808) : bits .xor .u64 (IntKind.u64.wrap n) 9223372036854775808 = (keyN n : Int) := by
  show IntKind.u64.wrap (((BitVec.ofInt 64 (IntKind.u64.wrap n) ^^^ BitVec.ofInt 64 9223372036854775808 : BitVec 64)).toNat : Int) = _
  have hw : IntKind.u64.wrap n = n % 18446744073709551616 := rfl
  rw [BitVec.toNat_xor, BitVec.toNat_ofInt, hw, show (BitVec.ofInt 64 9223372036854775808).toNat = 9223372036854775808 from by decide]
  have e : ((n % 18446744073709551616) % ((2 ^ 64 : Nat) : Int)).toNat = (n % 18446744073709551616).toNat := by
    rw [show ((2 ^ 64 : Nat) : Int) = 18446744073709551616 from rfl, Int.emod_emod_of_dvd _ (Int.dvd_refl _)]
  rw [e, top_xor _ (by omega)]
  show (((n % 18446744073709551616).toNat + 9223372036854775808) % 18446744073709551616 : Nat) % (18446744073709551616 : Int) = _
  unfold keyN
  omega

/-- A text with its noughts marked. -/
def esc (l : Bs) : Bs := l.flatMap fun b => if b = 0 then [0, 255] else [b]
/-- A value in a key. -/
def oneB (v : Val) : Bs := if v.1 = 1 then 2 :: beN (keyN v.2.1) 8 else if v.1 = 2 then 3 :: (esc (keyB v.2.2) ++ [0, 1]) else [1]
/-- A value in a row. -/
def encB (v : Val) : Bs := v.1 :: (if v.1 = 1 then beN (v.2.1 % 18446744073709551616).toNat 8 else if v.1 = 2 then beN v.2.2.size 2 ++ keyB v.2.2 else [])
/-- A call's bytes of its own. -/
def OwnB (w : World) (p : Bs) (e : Ending) (w' : World) : Prop := ∃ A c, e = .returned (.slice A p.length c) ∧ Ow Ty.u8 5 w' (fun i => w.heap.size ≤ i) (.slice A p.length c) p ∧ Fr No w w'

set_option maxHeartbeats 1000000 in
set_option maxRecDepth 100000 in
theorem one_int {w : World} (n : Int) (h0 : -9223372036854775808 ≤ n) (h1 : n < 9223372036854775808) : Calls Tryz.prog 177 #[vA (vI n)] w (OwnB w (oneB (vI n))) := by
  have hx := xor_sign n h0 h1
  have hkl := keyN_lt h1
  show Calls _ _ _ w (OwnB w (2 :: beN (keyN n) 8))
  have hlenp : (2 :: beN (keyN n) 8).length = 9 := by rw [List.length_cons, beN_len]
  show Calls _ _ #[.agg #[.int .u8 1, .int .i64 n, .string ⟨#[]⟩]] _ _
  obtain ⟨N, hN⟩ : ∃ N, keyN n = N := ⟨_, rfl⟩
  rw [hN] at hx hkl hlenp ⊢
  unfold OwnB
  rw [hlenp]
  have hn0 : (0 : Int) ≤ (N : Int) := Int.natCast_nonneg _
  obtain ⟨W, hW⟩ : ∃ W, W = (w.alloc (.cells #[.int .u8 1, .int .i64 n, .string ⟨#[]⟩] 35)).alloc (.cells #[.int .u8 2] 5) := ⟨_, rfl⟩
  have hOW : Ow Ty.u8 5 W (fun k => w.heap.size ≤ k) (.slice (some ⟨w.heap.size + 1, 0, none⟩) 1 1) [2] := by
    have := ow_new1 (w := w.alloc (.cells #[.int .u8 1, .int .i64 n, .string ⟨#[]⟩] 35)) 2 (x := 2) rfl
    rw [hW]
    rw [World.size_alloc] at this
    exact this.mono fun i hi _ => by omega
  have hfW : Fr No w W := by rw [hW]; exact ((Fr.refl No w).alloc _).alloc _
  have HW := Lib.hid (And.intro hOW hfW)
  clear hOW hfW h0 h1 hN hkl hlenp
  go_enter Tryz.func177, Tryz.ntmps177
  go_wp2_with fail
  rw [← hW]
  clear hW
  go_loopw [3, 5] (fun v s wr => ∃ (j : Nat) (e : Int) (A' : Option Addr) (c' : Nat), j ≤ 8 ∧ e = 7 - (j : Int) ∧ v = .slice A' (1 + j) c' ∧ s = .int .i64 e ∧ Hid (Ow Ty.u8 5 wr (fun i => w.heap.size ≤ i) (.slice A' (1 + j) c') ([2] ++ (beN N 8).take j) ∧ Fr No w wr)) (fun _ s _ => (intOf s + 1).toNat)
  case atStart => exact ⟨0, _, _, 1, by omega, by omega, rfl, rfl, by simpa using HW.out.1, HW.out.2⟩
  case round =>
    obtain ⟨j, e, A', c', hj, he, rfl, rfl, I⟩ := hrel
    by_cases hlt : 0 ≤ e
    · obtain ⟨r, rfl⟩ := Int.eq_ofNat_of_zero_le hlt
      have hr7 : (r : Int) ≤ 7 := by omega
      have hjl : j < (beN N 8).length := by rw [beN_len]; omega
      have hb := beN_get N 8 j (by omega)
      rw [show 8 - 1 - j = r by omega] at hb
      obtain ⟨b, hbb⟩ : ∃ b, UInt8.ofNat (N / 2 ^ (8 * r)) = b := ⟨_, rfl⟩
      have qb : (b.toNat : Int) = (N : Int) / 2 ^ (8 * r) % 256 := by
        rw [← hbb, UInt8.toNat_ofNat', Int.natCast_emod, Int.natCast_ediv, Int.natCast_pow]; rfl
      have hnext : [2] ++ (beN N 8).take j ++ [b] = [2] ++ (beN N 8).take (j + 1) := by rw [List.take_succ_eq_append_getElem hjl, hb, hbb, List.append_assoc]
      have hlen : ([2] ++ (beN N 8).take j).length = 1 + j := by rw [List.length_append, List.length_take, beN_len]; simp; omega
      obtain ⟨W1, hW1⟩ : ∃ W1, W1 = wr.alloc (.cells #[.int .u8 ((N : Int) / 2 ^ (8 * r) % 256)] 5) := ⟨_, rfl⟩
      have hf1 : Fr No wr W1 := by rw [hW1]; exact (Fr.refl No wr).alloc _
      have hA : At W1 (some ⟨wr.heap.size, 0, none⟩) [.int .u8 (b.toNat : Int)] := by
        rw [hW1, qb]; exact At.block (heap_alloc_new wr _)
      have hO := I.out.1.fr0 hf1
      obtain ⟨A1, c1, w1, hrun, hO1, hg1, _⟩ := run_ow_append (P := Tryz.prog) (ty := 46) (ty' := 46) Ty.u8 hO (.int .u8 0) 1 Tryz.underlying46 info_u8 rfl (by decide) (by decide) 1 (ys := [b]) (row_u8b _ _ b) hA (by rw [hlen]; simp; omega)
      rw [hlen] at hrun hO1
      rw [hnext] at hO1
      have hf2 : Fr No w w1 := (I.out.2.next hf1 (fun _ _ f => f.elim)).grown hg1 fun k hk => .inr (I.out.1.own hk).1
      have hsz : w.heap.size ≤ W1.heap.size := Nat.le_trans I.out.2.size hf1.size
      have HH := Lib.hid (And.intro hO1 (And.intro hf2 hsz))
      clear hsz hO1 hf2 hg1 hO hA hf1 hlen hnext qb hbb hb hjl
      have HE2 := Lib.hid he
      clear he
      simp only [List.length_singleton] at hrun HH
      go_wp2_with (at_builtin; rw [← hW1]; refine wpList_plain rfl fun K hK => wp_append_run _ _ _ _ rfl rfl rfl hrun (hK _ _ ?_))
      go_roundw
      case rel => exact ⟨j + 1, (r : Int) - 1, A1, c1, by have := HE2.out; omega, by have := HE2.out; omega, rfl, by go_num, HH.out.1.mono fun i hi _ => by (have := HH.out.2.2; rcases hi with hi | hi <;> omega), HH.out.2.1⟩
      case measure => simp [intOf]
    · obtain rfl : j = 8 := by omega
      have ht : (beN N 8).take 8 = beN N 8 := List.take_of_length_le (by rw [beN_len]; omega)
      rw [ht] at I
      clear ht
      go_wp2_with fail
      go_ret
      exact ⟨A', c', rfl, I.out.1, I.out.2⟩

theorem enc_byte (n : Int) (r : Nat) (hr : r ≤ 7) : ((UInt8.ofNat ((n % 18446744073709551616).toNat / 2 ^ (8 * r))).toNat : Int) = n / 2 ^ (8 * r) % 256 := by
  rw [UInt8.toNat_ofNat', Int.natCast_emod, Int.natCast_ediv, Int.natCast_pow, Int.toNat_of_nonneg (by omega)]
  have : r = 0 ∨ r = 1 ∨ r = 2 ∨ r = 3 ∨ r = 4 ∨ r = 5 ∨ r = 6 ∨ r = 7 := by omega
  rcases this with rfl | rfl | rfl | rfl | rfl | rfl | rfl | rfl <;> simp only [Nat.reduceMul, Int.reducePow, Nat.reducePow, Int.cast_ofNat_Int] <;> omega
set_option maxHeartbeats 1000000 in
set_option maxRecDepth 100000 in
theorem enc_int {w : World} (n : Int) : Calls Tryz.prog 101 #[vA (vI n)] w (OwnB w (encB (vI n))) := by
  show Calls _ _ _ w (OwnB w (1 :: beN (n % 18446744073709551616).toNat 8))
  have hlenp : (1 :: beN (n % 18446744073709551616).toNat 8).length = 9 := by rw [List.length_cons, beN_len]
  show Calls _ _ #[.agg #[.int .u8 1, .int .i64 n, .string ⟨#[]⟩]] _ _
  have HE := Lib.hid (fun (r : Nat) (hr : r ≤ 7) => enc_byte n r hr)
  obtain ⟨N, hN⟩ : ∃ N, (n % 18446744073709551616).toNat = N := ⟨_, rfl⟩
  rw [hN] at hlenp HE ⊢
  unfold OwnB
  rw [hlenp]
  obtain ⟨W, hW⟩ : ∃ W, W = (w.alloc (.cells #[.int .u8 1, .int .i64 n, .string ⟨#[]⟩] 35)).alloc (.cells #[.int .u8 1] 5) := ⟨_, rfl⟩
  have hOW : Ow Ty.u8 5 W (fun k => w.heap.size ≤ k ∧ k ≠ w.heap.size) (.slice (some ⟨w.heap.size + 1, 0, none⟩) 1 1) [1] := by
    have := ow_new1 (w := w.alloc (.cells #[.int .u8 1, .int .i64 n, .string ⟨#[]⟩] 35)) 1 (x := 1) rfl
    rw [hW]
    rw [World.size_alloc] at this
    exact this.mono fun i hi _ => by omega
  have hfW : Fr No w W := by rw [hW]; exact ((Fr.refl No w).alloc _).alloc _
  have hvW : W.heap[w.heap.size]? = some (.cells #[.int .u8 1, .int .i64 n, .string ⟨#[]⟩] 35 (0, 0)) := by rw [hW]; exact blk_two1 w _ _
  have hzW : w.heap.size < W.heap.size := by rw [hW]; simp; omega
  have HW := Lib.hid (And.intro hOW (And.intro hfW (And.intro hvW hzW)))
  have v0 := blk_cell hvW 0
  simp at v0
  clear hOW hfW hN hlenp hvW hzW
  go_enter Tryz.func101, Tryz.ntmps101
  go_wp2_with fail
  rw [← hW]
  clear hW
  go_wp2_with fail
  go_loopw [3, 4] (fun v s wr => ∃ (j : Nat) (e : Int) (A' : Option Addr) (c' : Nat), j ≤ 8 ∧ e = 7 - (j : Int) ∧ v = .slice A' (1 + j) c' ∧ s = .int .i64 e ∧ wr.cell? ⟨w.heap.size, 1, none⟩ = some (.int .i64 n) ∧ Hid (Ow Ty.u8 5 wr (fun i => w.heap.size ≤ i ∧ i ≠ w.heap.size) (.slice A' (1 + j) c') ([1] ++ (beN N 8).take j) ∧ Fr No w wr ∧ w.heap.size < wr.heap.size)) (fun _ s _ => (intOf s + 1).toNat)
  case atStart => exact ⟨0, _, _, 1, by omega, by omega, rfl, rfl, by have := blk_cell HW.out.2.2.1 1; simpa using this, by simpa using HW.out.1, HW.out.2.1, HW.out.2.2.2⟩
  case round =>
    obtain ⟨j, e, A', c', hj, he, rfl, rfl, hc, I⟩ := hrel
    by_cases hlt : 0 ≤ e
    · obtain ⟨r, rfl⟩ := Int.eq_ofNat_of_zero_le hlt
      have hr7 : (r : Int) ≤ 7 := by omega
      have hjl : j < (beN N 8).length := by rw [beN_len]; omega
      have hb := beN_get N 8 j (by omega)
      rw [show 8 - 1 - j = r by omega] at hb
      obtain ⟨b, hbb⟩ : ∃ b, UInt8.ofNat (N / 2 ^ (8 * r)) = b := ⟨_, rfl⟩
      have qb : (b.toNat : Int) = n / 2 ^ (8 * r) % 256 := by rw [← hbb]; exact HE.out r (by omega)
      have hnext : [1] ++ (beN N 8).take j ++ [b] = [1] ++ (beN N 8).take (j + 1) := by rw [List.take_succ_eq_append_getElem hjl, hb, hbb, List.append_assoc]
      have hlen : ([1] ++ (beN N 8).take j).length = 1 + j := by rw [List.length_append, List.length_take, beN_len]; simp; omega
      obtain ⟨W1, hW1⟩ : ∃ W1, W1 = wr.alloc (.cells #[.int .u8 (n / 2 ^ (8 * r) % 256)] 5) := ⟨_, rfl⟩
      have hf1 : Fr No wr W1 := by rw [hW1]; exact (Fr.refl No wr).alloc _
      have hA : At W1 (some ⟨wr.heap.size, 0, none⟩) [.int .u8 (b.toNat : Int)] := by
        rw [hW1, qb]; exact At.block (heap_alloc_new wr _)
      have hO := I.out.1.fr0 hf1
      obtain ⟨A1, c1, w1, hrun, hO1, hg1, _⟩ := run_ow_append (P := Tryz.prog) (ty := 46) (ty' := 46) Ty.u8 hO (.int .u8 0) 1 Tryz.underlying46 info_u8 rfl (by decide) (by decide) 1 (ys := [b]) (row_u8b _ _ b) hA (by rw [hlen]; simp; omega)
      rw [hlen] at hrun hO1
      rw [hnext] at hO1
      have hf2 : Fr No w w1 := (I.out.2.1.next hf1 (fun _ _ f => f.elim)).grown hg1 fun k hk => .inr (I.out.1.own hk).1.1
      have hc1 : w1.cell? ⟨w.heap.size, 1, none⟩ = some (.int .i64 n) := ((hf1.mono (G := fun i => i ≠ w.heap.size) fun _ _ f => f.elim).grown hg1 fun k hk => .inl (I.out.1.own hk).1.2).cell hc (fun f => f rfl)
      have hsz : w.heap.size < W1.heap.size := Nat.lt_of_lt_of_le I.out.2.2 hf1.size
      have hsz1 : w.heap.size < w1.heap.size := Nat.lt_of_lt_of_le hsz hg1.size
      have HH := Lib.hid (And.intro hO1 (And.intro hf2 (And.intro hsz (And.intro hc1 hsz1))))
      clear hsz hO1 hf2 hg1 hO hA hf1 hlen hnext qb hbb hb hjl hc1 hsz1
      have HE2 := Lib.hid he
      clear he
      simp only [List.length_singleton] at hrun HH
      go_wp2_with (at_builtin; rw [← hW1]; refine wpList_plain rfl fun K hK => wp_append_run _ _ _ _ rfl rfl rfl hrun (hK _ _ ?_))
      go_roundw
      case rel => exact ⟨j + 1, (r : Int) - 1, A1, c1, by have := HE2.out; omega, by have := HE2.out; omega, rfl, by go_num, HH.out.2.2.2.1, HH.out.1.mono fun i hi _ => by (have := HH.out.2.2.1; rcases hi with hi | hi; exact hi; exact ⟨by omega, by omega⟩), HH.out.2.1, HH.out.2.2.2.2⟩
      case measure => simp [intOf]
    · obtain rfl : j = 8 := by omega
      have ht : (beN N 8).take 8 = beN N 8 := List.take_of_length_le (by rw [beN_len]; omega)
      rw [ht] at I
      clear ht
      go_wp2_with fail
      go_ret
      exact ⟨A', c', rfl, I.out.1.mono fun i hi _ => hi.1, I.out.2.1⟩
end Go.Proofs.YtlmhphejgahfbaaGreatDoor
/- order.Key, table.Key, KeyOf; table.Pack; table.Check. -/
set_option linter.unusedVariables false
set_option linter.unusedSimpArgs false
namespace Go.Proofs.YtlmhphejgahfbaaGreatDoor
open Go.RowKit

theorem flat_le {α : Type} {f : α → Bs} {m : Nat} {l : List α} (h : ∀ x ∈ l, (f x).length ≤ m) : (l.flatMap f).length ≤ m * l.length := by
  induction l with
  | nil => simp
  | cons x l ih =>
    have h1 := h x (List.mem_cons_self ..)
    have h2 := ih fun y hy => h y (List.mem_cons_of_mem _ hy)
    rw [List.flatMap_cons, List.length_append, List.length_cons, Nat.mul_add]
    omega
theorem flat_take {α : Type} {f : α → Bs} {l : List α} {k : Nat} (hk : k < l.length) : (l.take k).flatMap f ++ f l[k] = (l.take (k + 1)).flatMap f := by
  rw [List.take_succ_eq_append_getElem hk, List.flatMap_append]; simp
set_option maxHeartbeats 1000000 in
set_option maxRecDepth 100000 in
theorem okey_ok {w : World} {R : Nat → Prop} {A : Option Addr} {c n : Nat} {l : List Val} (h : Rd tVal w R A l) (hn : n = l.length) (hl : l.length ≤ 8) (hb : ∀ v ∈ l, (oneB v).length ≤ 1000) (ho : ∀ v ∈ l, ∀ w1 : World, Calls Tryz.prog 177 #[vA v] w1 (OwnB w1 (oneB v))) :
    Calls Tryz.prog 124 #[.slice A n c] w (OwnB w (l.flatMap oneB)) := by
  subst hn
  have hl8 : (l.length : Int) ≤ 8 := by omega
  have H := Lib.hid (And.intro h (And.intro hb ho))
  clear h hb ho
  go_enter Tryz.func124, Tryz.ntmps124
  go_wp2_with fail
  go_loopw [3, 8] (fun v iv wr => ∃ (k : Nat) (A' : Option Addr) (c' : Nat), k ≤ l.length ∧ iv = .int .i64 (k : Int) ∧ v = .slice A' ((l.take k).flatMap oneB).length c' ∧ Hid (Ow Ty.u8 5 wr (fun i => w.heap.size ≤ i) (.slice A' ((l.take k).flatMap oneB).length c') ((l.take k).flatMap oneB) ∧ Fr No w wr)) (fun _ iv _ => l.length - (intOf iv).toNat)
  case atStart => exact ⟨0, none, 0, Nat.zero_le _, rfl, rfl, by simpa using Ow.nil, Fr.refl No w⟩
  case round =>
    obtain ⟨k, A', c', hk, rfl, rfl, I⟩ := hrel
    have hk0 : (0 : Int) ≤ (k : Int) := Int.natCast_nonneg _
    by_cases hlt : k < l.length
    · have hk1 : (k : Int) < (l.length : Int) := by omega
      obtain ⟨ad, rfl, x0, x1, x2⟩ := val_at (H.out.1.fr0 I.out.2) hlt
      have hone := H.out.2.2 l[k] (List.getElem_mem hlt)
      have hone1 := H.out.2.1 l[k] (List.getElem_mem hlt)
      have hsucc := flat_take (f := oneB) hlt
      have hpl : ((l.take k).flatMap oneB).length ≤ 1000 * (l.take k).length := flat_le fun x hx => H.out.2.1 x (List.mem_of_mem_take hx)
      rw [List.length_take] at hpl
      obtain ⟨v, hv⟩ : ∃ v, l[k] = v := ⟨_, rfl⟩
      rw [hv] at x0 x1 x2 hone hone1 hsucc
      clear hv
      obtain ⟨pre, hpre⟩ : ∃ pre, (l.take k).flatMap oneB = pre := ⟨_, rfl⟩
      rw [hpre] at I hsucc hpl ⊢
      have HO := Lib.hid (And.intro hone (And.intro hone1 (And.intro hsucc hpl)))
      clear hone hone1 hsucc hpl hpre
      go_wp2_with fail
      refine (HO.out.1 _).mono ?_
      rintro e w3 ⟨A2, c2, rfl, ho2, hf3⟩
      have hf : Fr No wr w3 := ((Fr.refl No wr).alloc _).next hf3 (fun _ _ f => f.elim)
      obtain ⟨cs, hR, hA⟩ := (ho2.rd.2.2).at
      have hpl := HO.out.2.2.2
      have hol := HO.out.2.1
      obtain ⟨A4, c4, w4, hrun, hO4, hg4, _⟩ := run_ow_append (P := Tryz.prog) (ty := 46) (ty' := 46) Ty.u8 (I.out.1.fr0 hf) (.int .u8 0) 1 Tryz.underlying46 info_u8 rfl (by decide) (by decide) c2 (ys := oneB v) (hR.imp fun _ _ h => h) hA (by omega)
      have hlen : pre.length + (oneB v).length = ((l.take (k + 1)).flatMap oneB).length := by rw [← HO.out.2.2.1, List.length_append]
      rw [hlen] at hrun hO4
      rw [HO.out.2.2.1] at hO4
      obtain ⟨nxt, hnx⟩ : ∃ nxt, (l.take (k + 1)).flatMap oneB = nxt := ⟨_, rfl⟩
      rw [hnx] at hrun hO4
      have HX := Lib.hid hnx
      clear hnx
      have hsz := Nat.le_trans I.out.2.size hf.size
      have HH := Lib.hid (And.intro (hO4.mono (G := fun i => w.heap.size ≤ i) fun i hi _ => by rcases hi with hi | hi <;> omega) ((I.out.2.next hf (fun _ _ f => f.elim)).grown hg4 fun k hk => .inr (I.out.1.own hk).1))
      clear hf3 ho2 hf hR hA hO4 hg4 hlen hsz hpl hol
      go_wp2_with (at_builtin; refine wpList_plain rfl fun K hK => wp_append_run _ _ _ _ rfl rfl rfl hrun (hK _ _ ?_))
      go_roundw
      case rel => exact ⟨k + 1, A4, c4, by omega, by go_num, by rw [HX.out], by rw [HX.out]; exact HH.out.1, HH.out.2⟩
      case measure => simp [intOf]; omega
    · obtain rfl : k = l.length := by omega
      rw [List.take_length] at I ⊢
      go_wp2_with fail
      go_ret
      exact ⟨A', c', rfl, I.out.1, I.out.2⟩

/-- A key of a table. -/
def keyS (t : Nat) (l : List Val) : ByteArray := ⟨(UInt8.ofNat t :: l.flatMap oneB).toArray⟩
set_option maxHeartbeats 1000000 in
set_option maxRecDepth 100000 in
theorem tkey_ok {w : World} {R : Nat → Prop} {A : Option Addr} {c n t : Nat} {l : List Val} (ht : t ≤ 3) (h : Rd tVal w R A l) (hn : n = l.length) (hl : l.length ≤ 8) (hb : ∀ v ∈ l, (oneB v).length ≤ 1000) (ho : ∀ v ∈ l, ∀ w1 : World, Calls Tryz.prog 177 #[vA v] w1 (OwnB w1 (oneB v))) :
    Calls Tryz.prog 67 #[.int .i64 (t : Int), .slice A n c] w fun e w' => e = .returned (.string (keyS t l)) ∧ Fr No w w' := by
  have ht0 : (0 : Int) ≤ (t : Int) := Int.natCast_nonneg _
  have ht3 : (t : Int) ≤ 3 := by omega
  have htm : IntKind.u8.wrap (t : Int) = (t : Int) := by show (t : Int) % 256 = _; omega
  obtain ⟨K0, hK0⟩ : ∃ K0, keyS t l = K0 := ⟨_, rfl⟩
  rw [hK0]
  have HK0 := Lib.hid (show (⟨([UInt8.ofNat t] ++ l.flatMap oneB).toArray⟩ : ByteArray) = K0 from hK0)
  clear hK0
  have hbl := flat_le hb
  obtain ⟨W, hW⟩ : ∃ W, W = w.alloc (.cells #[.int .u8 (t : Int)] 5) := ⟨_, rfl⟩
  have hfW : Fr No w W := by rw [hW]; exact (Fr.refl No w).alloc _
  have hOW : Ow Ty.u8 5 W (fun k => w.heap.size ≤ k) (.slice (some ⟨w.heap.size, 0, none⟩) 1 1) [UInt8.ofNat t] := by
    rw [hW]; exact ow_new1 (UInt8.ofNat t) (by rw [UInt8.toNat_ofNat']; omega)
  have hkey := okey_ok (c := c) (h.fr0 hfW) hn hl hb ho
  obtain ⟨q, hq⟩ : ∃ q, l.flatMap oneB = q := ⟨_, rfl⟩
  rw [hq] at hkey hbl HK0
  clear hq
  have H := Lib.hid (And.intro hkey (And.intro hOW (And.intro hfW (And.intro hbl hl))))
  clear hkey hOW hfW h hn hl hb ho hbl ht
  go_enter Tryz.func67, Tryz.ntmps67
  go_wp2_with fail
  rw [← hW]
  clear hW
  refine H.out.1.mono ?_
  rintro e w1 ⟨A1, c1, rfl, ho1, hf1⟩
  have hll := H.out.2.2.2.2
  have hbb := H.out.2.2.2.1
  obtain ⟨cs, hR, hA⟩ := (ho1.rd.2.2).at
  obtain ⟨A4, c4, w4, hrun, hO4, hg4, _⟩ := run_ow_append (P := Tryz.prog) (ty := 46) (ty' := 46) Ty.u8 (H.out.2.1.fr0 hf1) (.int .u8 0) 1 Tryz.underlying46 info_u8 rfl (by decide) (by decide) c1 (ys := q) (hR.imp fun _ _ h => h) hA (by simp only [List.length_singleton]; omega)
  simp only [List.length_singleton] at hrun hO4
  have hstr := run_str (c := c4) (n := 1 + (q).length) hO4.rd.2.2 (by rw [List.length_append]; rfl)
  rw [HK0.out] at hstr
  have HH := Lib.hid ((H.out.2.2.1.next hf1 (fun _ _ f => f.elim)).grown hg4 fun k hk => .inr (H.out.2.1.own hk).1)
  clear ho1 hf1 hR hA hO4 hg4 hll hbb
  go_wp2_with (at_builtin; refine wpList_plain rfl fun K hK => wp_append_run _ _ _ _ rfl rfl rfl hrun (hK _ _ ?_))
  go_ret
  exact ⟨rfl, HH.out⟩

set_option maxHeartbeats 1000000 in
set_option maxRecDepth 100000 in
theorem pack_ok {w : World} {R : Nat → Prop} {A : Option Addr} {c n : Nat} {l : List Val} (h : Rd tVal w R A l) (hn : n = l.length) (hl : l.length ≤ 8) (hb : ∀ v ∈ l, (encB v).length ≤ 1000) (ho : ∀ v ∈ l, ∀ w1 : World, Calls Tryz.prog 101 #[vA v] w1 (OwnB w1 (encB v))) :
    Calls Tryz.prog 50 #[.slice A n c] w (OwnB w (UInt8.ofNat l.length :: l.flatMap encB)) := by
  subst hn
  have hl0 : (0 : Int) ≤ (l.length : Int) := Int.natCast_nonneg _
  have hl8 : (l.length : Int) ≤ 8 := by omega
  have hlm : IntKind.u8.wrap (l.length : Int) = (l.length : Int) := by show (l.length : Int) % 256 = _; omega
  obtain ⟨W, hW⟩ : ∃ W, W = w.alloc (.cells #[.int .u8 (l.length : Int)] 5) := ⟨_, rfl⟩
  have hfW : Fr No w W := by rw [hW]; exact (Fr.refl No w).alloc _
  have hOW : Ow Ty.u8 5 W (fun k => w.heap.size ≤ k) (.slice (some ⟨w.heap.size, 0, none⟩) 1 1) [UInt8.ofNat l.length] := by
    rw [hW]; exact ow_new1 (UInt8.ofNat l.length) (by rw [UInt8.toNat_ofNat']; omega)
  obtain ⟨hd, hhd⟩ : ∃ hd, [UInt8.ofNat l.length] = hd := ⟨_, rfl⟩
  have hhl : hd.length = 1 := by rw [← hhd]; rfl
  rw [hhd] at hOW
  rw [show UInt8.ofNat l.length :: l.flatMap encB = hd ++ l.flatMap encB by rw [← hhd]; rfl]
  clear hhd
  have H := Lib.hid (And.intro h (And.intro hb (And.intro ho (And.intro hOW hfW))))
  clear h hb ho hOW hfW
  go_enter Tryz.func50, Tryz.ntmps50
  go_wp2_with fail
  rw [← hW]
  clear hW
  go_loopw [3, 12] (fun v iv wr => ∃ (k : Nat) (A' : Option Addr) (c' : Nat), k ≤ l.length ∧ iv = .int .i64 (k : Int) ∧ v = .slice A' (hd ++ (l.take k).flatMap encB).length c' ∧ Hid (Ow Ty.u8 5 wr (fun i => w.heap.size ≤ i) (.slice A' (hd ++ (l.take k).flatMap encB).length c') (hd ++ (l.take k).flatMap encB) ∧ Fr No w wr)) (fun _ iv _ => l.length - (intOf iv).toNat)
  case atStart => exact ⟨0, some ⟨w.heap.size, 0, none⟩, 1, Nat.zero_le _, rfl, by simp [hhl], by simpa [hhl] using H.out.2.2.2.1, H.out.2.2.2.2⟩
  case round =>
    obtain ⟨k, A', c', hk, rfl, rfl, I⟩ := hrel
    have hk0 : (0 : Int) ≤ (k : Int) := Int.natCast_nonneg _
    by_cases hlt : k < l.length
    · have hk1 : (k : Int) < (l.length : Int) := by omega
      obtain ⟨ad, rfl, x0, x1, x2⟩ := val_at (H.out.1.fr0 I.out.2) hlt
      have hone := H.out.2.2.1 l[k] (List.getElem_mem hlt)
      have hone1 := H.out.2.1 l[k] (List.getElem_mem hlt)
      have hsucc : hd ++ (l.take k).flatMap encB ++ encB l[k] = hd ++ (l.take (k + 1)).flatMap encB := by rw [List.append_assoc, flat_take (f := encB) hlt]
      have hpl : ((l.take k).flatMap encB).length ≤ 1000 * (l.take k).length := flat_le fun x hx => H.out.2.1 x (List.mem_of_mem_take hx)
      have hpl2 : (hd ++ (l.take k).flatMap encB).length ≤ 1000 * k + 1 := by rw [List.length_append]; rw [List.length_take] at hpl; omega
      obtain ⟨v, hv⟩ : ∃ v, l[k] = v := ⟨_, rfl⟩
      rw [hv] at x0 x1 x2 hone hone1 hsucc
      clear hv hpl
      obtain ⟨pre, hpre⟩ : ∃ pre, hd ++ (l.take k).flatMap encB = pre := ⟨_, rfl⟩
      rw [hpre] at I hsucc hpl2 ⊢
      have HO := Lib.hid (And.intro hone (And.intro hone1 (And.intro hsucc hpl2)))
      clear hone hone1 hsucc hpl2 hpre
      go_wp2_with fail
      refine (HO.out.1 _).mono ?_
      rintro e w3 ⟨A2, c2, rfl, ho2, hf3⟩
      have hf : Fr No wr w3 := ((Fr.refl No wr).alloc _).next hf3 (fun _ _ f => f.elim)
      obtain ⟨cs, hR, hA⟩ := (ho2.rd.2.2).at
      have hpl := HO.out.2.2.2
      have hol := HO.out.2.1
      obtain ⟨A4, c4, w4, hrun, hO4, hg4, _⟩ := run_ow_append (P := Tryz.prog) (ty := 46) (ty' := 46) Ty.u8 (I.out.1.fr0 hf) (.int .u8 0) 1 Tryz.underlying46 info_u8 rfl (by decide) (by decide) c2 (ys := encB v) (hR.imp fun _ _ h => h) hA (by omega)
      have hlen : pre.length + (encB v).length = (hd ++ (l.take (k + 1)).flatMap encB).length := by rw [← HO.out.2.2.1, List.length_append]
      rw [hlen] at hrun hO4
      rw [HO.out.2.2.1] at hO4
      obtain ⟨nxt, hnx⟩ : ∃ nxt, hd ++ (l.take (k + 1)).flatMap encB = nxt := ⟨_, rfl⟩
      rw [hnx] at hrun hO4
      have HX := Lib.hid hnx
      clear hnx
      have hsz := Nat.le_trans I.out.2.size hf.size
      have HH := Lib.hid (And.intro (hO4.mono (G := fun i => w.heap.size ≤ i) fun i hi _ => by rcases hi with hi | hi <;> omega) ((I.out.2.next hf (fun _ _ f => f.elim)).grown hg4 fun k hk => .inr (I.out.1.own hk).1))
      clear hf3 ho2 hf hR hA hO4 hg4 hlen hsz hpl hol
      go_wp2_with (at_builtin; refine wpList_plain rfl fun K hK => wp_append_run _ _ _ _ rfl rfl rfl hrun (hK _ _ ?_))
      go_roundw
      case rel => exact ⟨k + 1, A4, c4, by omega, by go_num, by rw [HX.out], by rw [HX.out]; exact HH.out.1, HH.out.2⟩
      case measure => simp [intOf]; omega
    · obtain rfl : k = l.length := by omega
      rw [List.take_length] at I ⊢
      go_wp2_with fail
      go_ret
      exact ⟨A', c', rfl, I.out.1, I.out.2⟩

set_option maxHeartbeats 400000 in
set_option maxRecDepth 100000 in
theorem has_ok {w : World} {A : Option Addr} {m c t : Nat} (ht : t < m) (hm : m ≤ 1000) : Calls Tryz.prog 97 #[.slice A m c, .int .i64 (t : Int)] w fun e w' => e = .returned (.bool true) ∧ w' = w := by
  have ht0 : (0 : Int) ≤ (t : Int) := Int.natCast_nonneg _
  have ht1 : (t : Int) < (m : Int) := by omega
  clear ht hm
  go_enter Tryz.func97, Tryz.ntmps97
  go_wp2_with fail
  go_ret
  exact ⟨rfl, rfl⟩
set_option maxHeartbeats 1000000 in
set_option maxRecDepth 100000 in
theorem tcheck_ok {w : World} {F G : Nat → Prop} {A B : Option Addr} {m c n c' t : Nat} {l : List Tab} {row : List Val} (ht : t < l.length) (hl : l.length ≤ 4) (h : Rd tTab w F A l) (hm : m = l.length) (hr : Rd tVal w G B row) (hn : n = row.length) (hlen : row.length = l[t].2.1.length)
    (hf : ∀ i (h : i < row.length) (h' : i < l[t].2.1.length), valFits l[t].2.1[i] row[i]) :
    Calls Tryz.prog 47 #[.slice A m c, .int .i64 (t : Int), .slice B n c'] w fun e w' => e = .returned (.int .i64 0) ∧ Fr No w w' := by
  obtain ⟨ad, R, c1, rfl, x0, x1, x2, hc1, hR⟩ := tab_at h ht
  clear x0 x2
  generalize l[t].2.1 = cols at *
  have hh := has_ok (w := w) (A := some ad) (m := m) (c := c) (t := t) (by omega) (by omega)
  have hck := check_ok (w := w) (c := c1) (c' := c') hR hr rfl hn hlen hf
  have ht0 : (0 : Int) ≤ (t : Int) := Int.natCast_nonneg _
  have ht1 : (t : Int) < (m : Int) := by omega
  have H := Lib.hid (And.intro hh hck)
  clear h hr hR hlen hf hh hck hm hn hc1
  go_enter Tryz.func47, Tryz.ntmps47
  go_wp2_with fail
  refine H.out.1.mono ?_
  rintro e w1 ⟨rfl, rfl⟩
  go_wp2_with fail
  refine H.out.2.mono ?_
  rintro e w1 ⟨rfl, hf1⟩
  go_wp2_with fail
  go_ret
  exact ⟨rfl, hf1⟩
set_option maxHeartbeats 1000000 in
set_option maxRecDepth 100000 in
theorem keyof_ok {w : World} {F R : Nat → Prop} {A B : Option Addr} {m c n c' t k : Nat} {l : List Tab} {row : List Val} (ht : t < l.length) (hl : l.length ≤ 4) (h : Rd tTab w F A l) (hm : m = l.length) (hk : l[t].2.2 = (k : Int)) (hk8 : k ≤ 8) (hr : Rd tVal w R B row) (hn : n = row.length) (hkr : k ≤ row.length) (hc : n ≤ c')
    (hb : ∀ v ∈ row, (oneB v).length ≤ 1000) (ho : ∀ v ∈ row, ∀ w1 : World, Calls Tryz.prog 177 #[vA v] w1 (OwnB w1 (oneB v))) :
    Calls Tryz.prog 49 #[.slice A m c, .int .i64 (t : Int), .slice B n c'] w fun e w' => e = .returned (.string (keyS t (row.take k))) ∧ Fr No w w' := by
  obtain ⟨ad, R1, c1, rfl, x0, x1, x2, hc1, hR⟩ := tab_at h ht
  rw [hk] at x2
  clear x0 x1 hc1 hR
  have hkey := tkey_ok (w := w) (c := c') (n := k) (t := t) (by omega) (hr.take k) (by rw [List.length_take]; omega) (by rw [List.length_take]; omega) (fun v hv => hb v (List.mem_of_mem_take hv)) (fun v hv => ho v (List.mem_of_mem_take hv))
  have ht0 : (0 : Int) ≤ (t : Int) := Int.natCast_nonneg _
  have ht1 : (t : Int) < (m : Int) := by omega
  have hk0 : (0 : Int) ≤ (k : Int) := Int.natCast_nonneg _
  have hk1 : (k : Int) ≤ (n : Int) := by omega
  have hk2 : (n : Int) ≤ (c' : Int) := by omega
  have H := Lib.hid hkey
  clear h hr hkey hk hb ho hm hn
  go_enter Tryz.func49, Tryz.ntmps49
  go_wp2_with fail
  refine H.out.mono ?_
  rintro e w1 ⟨rfl, hf1⟩
  go_wp2_with fail
  go_ret
  exact ⟨rfl, hf1⟩
end Go.Proofs.YtlmhphejgahfbaaGreatDoor
/- Layer 15 (ledger): Put. -/
set_option linter.unusedVariables false
set_option linter.unusedSimpArgs false
namespace Go.Proofs.YtlmhphejgahfbaaGreatDoor
open Go.RowKit

/-- A value whose bytes are known. -/
def GoodV (v : Val) : Prop := ((oneB v).length ≤ 1000 ∧ (encB v).length ≤ 1000) ∧ (∀ w1 : World, Calls Tryz.prog 177 #[vA v] w1 (OwnB w1 (oneB v))) ∧ ∀ w1 : World, Calls Tryz.prog 101 #[vA v] w1 (OwnB w1 (encB v))
theorem good_int (n : Int) (h0 : -9223372036854775808 ≤ n) (h1 : n < 9223372036854775808) : GoodV (vI n) := by
  refine ⟨⟨?_, ?_⟩, fun w1 => one_int n h0 h1, fun w1 => enc_int n⟩
  · show (2 :: beN (keyN n) 8).length ≤ 1000
    rw [List.length_cons, beN_len]; decide
  · show (1 :: beN (n % 18446744073709551616).toNat 8).length ≤ 1000
    rw [List.length_cons, beN_len]; decide
/-- What a row comes to: its key, its bytes. -/
def rowW (t k : Nat) (row : List Val) : Wr := ⟨keyS t (row.take k), UInt8.ofNat row.length :: row.flatMap encB, false⟩
/-- A row that a table takes. -/
structure RowFits (tabs : List Tab) (t k : Nat) (row : List Val) : Prop where
  lt : t < tabs.length
  few : tabs.length ≤ 4
  keys : (tabs[t]'lt).2.2 = (k : Int)
  len : row.length = (tabs[t]'lt).2.1.length
  kle : k ≤ row.length
  le8 : row.length ≤ 8
  fits : ∀ i (h : i < row.length) (h' : i < (tabs[t]'lt).2.1.length), valFits (tabs[t]'lt).2.1[i] row[i]
  good : ∀ v ∈ row, GoodV v
theorem rowW_len {tabs : List Tab} {t k : Nat} {row : List Val} (h : RowFits tabs t k row) : (rowW t k row).row.length ≤ 8001 := by
  have h1 := flat_le (f := encB) (m := 1000) (l := row) fun v hv => (h.good v hv).1.2
  have h2 := h.le8
  show (UInt8.ofNat row.length :: row.flatMap encB).length ≤ 8001
  rw [List.length_cons]
  omega

set_option maxHeartbeats 1000000 in
set_option maxRecDepth 100000 in
theorem led_put {w : World} {col : Nat → Nat} {lb : Nat} {L : Led} {id : Int} {x : LTx} {t k n c' : Nat} {R : Nat → Prop} {B : Option Addr} {row : List Val} (h : LedAt w col lb L) (hp : ∀ y ∈ L.txs, 0 ≤ y.id) (hx : L.find id = some x) (hws : x.ws.length ≤ 20) (hR : RowFits L.tabs t k row) (hr : Rd tVal w R B row) (hn : n = row.length) (hc : n ≤ c') :
    Calls Tryz.prog 13 #[.pointer (some ⟨lb, 0, none⟩), .int .i64 id, .int .i64 (t : Int), .slice B n c'] w fun e w' =>
      e = .returned (.int .i64 (wwrite x.ws (rowW t k row)).2) ∧ (∃ col', (∀ i, i < w.heap.size → col' i = col i) ∧ LedAt w' col' lb (L.setTx id (wwrite x.ws (rowW t k row)).1)) ∧ Fr (fun i => col i = txCol id) w w' := by
  obtain ⟨A, c, sb, mb, vst, l, hP⟩ := h
  obtain ⟨xb, hlook, hT⟩ := hP.txs.some_ id x hx
  have hof := led_of id (some ⟨xb, 0, none⟩) hP.blk hP.map hlook
  have hcheck := tcheck_ok (c := c) (c' := c') hR.lt hR.few hP.tabs rfl hr hn hR.len hR.fits
  have hkey := fun (w1 : World) (f : Fr No w w1) => keyof_ok (c := c) (c' := c') hR.lt hR.few (hP.tabs.fr0 f) rfl hR.keys (Nat.le_trans hR.kle hR.le8) (hr.fr0 f) hn hR.kle hc (fun v hv => (hR.good v hv).1.1) (fun v hv => (hR.good v hv).2.1)
  have hpack := fun (w1 : World) (f : Fr No w w1) => pack_ok (c := c') (hr.fr0 f) hn hR.le8 (fun v hv => (hR.good v hv).1.2) (fun v hv => (hR.good v hv).2.2)
  have hlen := rowW_len hR
  have hput := fun (w1 : World) (f : Fr No w w1) (A2 : Option Addr) (c2 : Nat) (hr2 : Rd Ty.u8 w1 (fun _ => True) A2 (rowW t k row).row) => tx_put (c := c2) (n := (rowW t k row).row.length) (keyS t (row.take k)) (hT.fr0 f) hr2 hws rfl (by omega)
  have c0 := blk_cell hP.blk 0
  simp at c0
  obtain ⟨y, hy⟩ : ∃ y, rowW t k row = y := ⟨_, rfl⟩
  rw [show (⟨keyS t (row.take k), (rowW t k row).row, false⟩ : Wr) = y from hy] at hput
  rw [show UInt8.ofNat row.length :: row.flatMap encB = y.row from hy ▸ rfl] at hpack
  rw [show (rowW t k row).row = y.row from hy ▸ rfl] at hput
  rw [hy]
  obtain ⟨kk, hkk⟩ : ∃ kk, keyS t (row.take k) = kk := ⟨_, rfl⟩
  rw [hkk] at hkey hput
  have H := Lib.hid (And.intro hof (And.intro hcheck (And.intro hkey (And.intro hpack hput))))
  have HP := Lib.hid (And.intro hP (And.intro hp (And.intro hx hlook)))
  clear hof hcheck hkey hpack hput hP hp hx hlook hT hR hr hws hy hkk hlen hn hc
  go_enter Tryz.func13, Tryz.ntmps13
  go_wp2_with fail
  refine H.out.1.mono ?_
  rintro e w ⟨rfl, rfl⟩
  go_wp2_with fail
  refine H.out.2.1.mono ?_
  rintro e w1 ⟨rfl, hf1⟩
  have d0 := hf1.cell c0 (fun f => f)
  have H1 := Lib.hid hf1
  clear hf1
  go_wp2_with fail
  refine (H.out.2.2.1 _ H1.out).mono ?_
  rintro e w2 ⟨rfl, hf2⟩
  have H2 := Lib.hid (H1.out.next hf2 (fun _ _ f => f.elim))
  clear hf2
  go_wp2_with fail
  refine (H.out.2.2.2.1 _ H2.out).mono ?_
  rintro e w3 ⟨A2, c2, rfl, ho3, hf3⟩
  have H3 := Lib.hid (And.intro (ho3.rd.2.2.mono (G := fun _ => True) fun _ _ _ => trivial) (H2.out.next hf3 (fun _ _ f => f.elim)))
  clear ho3 hf3
  go_wp2_with fail
  refine (H.out.2.2.2.2 _ H3.out.2 A2 c2 H3.out.1).mono ?_
  rintro e w4 ⟨rfl, hT4, hf4⟩
  have hff : Fr (fun i => col i = txCol id) w w4 := (H3.out.2.mono fun _ _ f => f.elim).trans (hf4.mono fun i _ hi => .inl hi)
  have H4 := Lib.hid (And.intro (hT4.mono (F' := fun i => col i = txCol id ∨ w.heap.size ≤ i) fun i hi _ => by rcases hi with hi | hi; exact .inl hi; right; have := H3.out.2.size; omega) hff)
  clear hT4 hf4 hff
  go_wp2_with fail
  go_ret
  exact ⟨rfl, ⟨_, fun i hi => ext_old col hi, _, _, _, _, _, _, HP.out.1.setTx HP.out.2.1 HP.out.2.2.1 HP.out.2.2.2 H4.out.1 H4.out.2⟩, H4.out.2⟩
end Go.Proofs.YtlmhphejgahfbaaGreatDoor
