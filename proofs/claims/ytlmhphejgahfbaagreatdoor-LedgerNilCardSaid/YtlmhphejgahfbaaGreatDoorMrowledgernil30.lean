/- Texts of this claim, one behind the other: Val, BytesN. -/
import Derived.Test.YtlmhphejgahfbaaGreatDoorMrowledgernil11
import Derived.Test.YtlmhphejgahfbaaGreatDoorMrowledgernil19
import Derived.Test.YtlmhphejgahfbaaGreatDoorMrowledgernil9
import Derived.Test.YtlmhphejgahfbaaGreatDoorMrowledgernil18
/- Values: value.Right; table.check, Check, CheckKey. -/
set_option linter.unusedVariables false
set_option linter.unusedSimpArgs false
namespace Go.Proofs.YtlmhphejgahfbaaGreatDoor
open Go.RowKit

abbrev Val := UInt8 × Int × ByteArray
abbrev tVal : Ty Val := Ty.pair Ty.u8 (Ty.pair (Ty.int .i64) Ty.str)
/-- A value as an aggregate. -/
def vA (v : Val) : Value := .agg #[.int .u8 (v.1.toNat : Int), .int .i64 v.2.1, .string v.2.2]
/-- A number as a value. -/
def vI (n : Int) : Val := (1, n, ⟨#[]⟩)
theorem val_at {w : World} {F : Nat → Prop} {A : Option Addr} {l : List Val} (h : Rd tVal w F A l) {i : Nat} (hi : i < l.length) :
    ∃ ad, A = some ad ∧ w.cell? (ad.add (i * 3)) = some (.int .u8 (l[i].1.toNat : Int)) ∧ w.cell? ⟨(ad.add (i * 3)).block, (ad.add (i * 3)).off + 1, none⟩ = some (.int .i64 l[i].2.1) ∧ w.cell? ⟨(ad.add (i * 3)).block, (ad.add (i * 3)).off + 2, none⟩ = some (.string l[i].2.2) := by
  obtain ⟨ad, cs, e, hk, h0, h1⟩ := h.get' hi (by decide)
  obtain ⟨c1, c2, rfl, k1, k2⟩ := hk
  obtain rfl : c1 = _ := k1
  obtain ⟨c3, c4, rfl, k3, k4⟩ := k2
  obtain rfl : c3 = _ := k3
  obtain rfl : c4 = _ := k4
  exact ⟨ad, e, h0 _ rfl, h1 1 _ (by decide) rfl, h1 2 _ (by decide) rfl⟩

/-- May a value be? -/
def valRight (v : Val) : Prop := (v.1 = 0 ∧ v.2.1 = 0 ∧ v.2.2 = ⟨#[]⟩) ∨ (v.1 = 1 ∧ v.2.2 = ⟨#[]⟩) ∨ (v.1 = 2 ∧ v.2.1 = 0 ∧ v.2.2.size ≤ 200)
/-- Does a value fit a column? -/
def valFits (c : Col) (v : Val) : Prop := valRight v ∧ ((v.1 = 0 ∧ c.2.2 = true) ∨ v.1 = c.2.1)
theorem valFits_int {c : Col} (n : Int) (h : c.2.1 = 1) : valFits c (vI n) := ⟨.inr (.inl ⟨rfl, rfl⟩), .inr h.symm⟩

set_option maxHeartbeats 400000 in
set_option maxRecDepth 100000 in
theorem val_right {w : World} (v : Val) (h : valRight v) : Calls Tryz.prog 162 #[vA v] w fun e w' => e = .returned (.bool true) ∧ Fr No w w' := by
  have hw := Lib.hid (Fr.refl No w)
  obtain ⟨k, n, s⟩ := v
  unfold vA
  rcases h with ⟨h1, h2, h3⟩ | ⟨h1, h3⟩ | ⟨h1, h2, h3⟩
  · obtain rfl : k = 0 := h1
    obtain rfl : n = 0 := h2
    obtain rfl : s = ⟨#[]⟩ := h3
    go_enter Tryz.func162, Tryz.ntmps162
    go_wp2_with fail
    go_ret
    exact ⟨rfl, by repeat (first | exact hw.out | apply Fr.alloc | apply Fr.drew | apply Fr.drewN)⟩
  · obtain rfl : k = 1 := h1
    obtain rfl : s = ⟨#[]⟩ := h3
    go_enter Tryz.func162, Tryz.ntmps162
    go_wp2_with fail
    go_ret
    exact ⟨rfl, by repeat (first | exact hw.out | apply Fr.alloc | apply Fr.drew | apply Fr.drewN)⟩
  · obtain rfl : k = 2 := h1
    obtain rfl : n = 0 := h2
    have hs : (s.size : Int) ≤ 200 := by have : s.size ≤ 200 := h3; omega
    clear h3
    go_enter Tryz.func162, Tryz.ntmps162
    go_wp2_with fail
    go_ret
    exact ⟨rfl, by repeat (first | exact hw.out | apply Fr.alloc | apply Fr.drew | apply Fr.drewN)⟩

theorem u8_ne {a b : UInt8} (h : a ≠ b) : (a.toNat : Int) ≠ (b.toNat : Int) := fun e => h (UInt8.toNat_inj.1 (by omega))
set_option maxHeartbeats 1000000 in
set_option maxRecDepth 100000 in
theorem check_ok {w : World} {F G : Nat → Prop} {A B : Option Addr} {m c n c' : Nat} {cols : List Col} {row : List Val} (hc : Rd tCol w F A cols) (hr : Rd tVal w G B row) (hm : m = cols.length) (hn : n = row.length) (hl : row.length = cols.length)
    (hf : ∀ i (h : i < row.length) (h' : i < cols.length), valFits cols[i] row[i]) :
    Calls Tryz.prog 98 #[.slice A m c, .slice B n c'] w fun e w' => e = .returned (.int .i64 0) ∧ Fr No w w' := by
  subst hm hn
  have hl63 : (row.length : Int) ≤ 9223372036854775807 := by have := hr.1; omega
  have H := Lib.hid (And.intro hc (And.intro hr hf))
  have HV := Lib.hid fun (w : World) (v : Val) (h : valRight v) => val_right (w := w) v h
  rw [← hl]
  have HL := Lib.hid hl
  clear hc hr hf hl
  go_enter Tryz.func98, Tryz.ntmps98
  go_wp2_with fail
  go_loopw [15] (fun iv wr => ∃ k : Nat, k ≤ row.length ∧ iv = .int .i64 (k : Int) ∧ Hid (Fr No w wr)) (fun iv _ => row.length - (intOf iv).toNat)
  case atStart => exact ⟨0, Nat.zero_le _, rfl, Fr.refl No w⟩
  case round =>
    obtain ⟨k, hk, rfl, I⟩ := hrel
    have hk0 : (0 : Int) ≤ (k : Int) := Int.natCast_nonneg _
    by_cases hlt : k < row.length
    · have hk1 : (k : Int) < (row.length : Int) := by omega
      have hlt' : k < cols.length := by have := HL.out; omega
      obtain ⟨ad, rfl, x0, x1, x2⟩ := val_at (H.out.2.1.fr0 I.out) hlt
      obtain ⟨ad', rfl, y0, y1, y2⟩ := col_at (H.out.1.fr0 (w' := wr.alloc (.cells #[.int .u8 (row[k].1.toNat : Int), .int .i64 row[k].2.1, .string row[k].2.2] 35)) (I.out.alloc _)) hlt'
      obtain ⟨f1, f2⟩ := H.out.2.2 k hlt hlt'
      obtain ⟨v, hv⟩ : ∃ v, row[k] = v := ⟨_, rfl⟩
      obtain ⟨cl, hcl⟩ : ∃ cl, cols[k] = cl := ⟨_, rfl⟩
      rw [hv] at x0 x1 x2 y0 y1 y2 f1 f2
      rw [hcl] at y0 y1 y2 f2
      clear hv hcl
      obtain ⟨vk, vn, vs⟩ := v
      obtain ⟨cn, ck, cb⟩ := cl
      dsimp only at x0 x1 x2 y0 y1 y2 f2
      have HF := Lib.hid f1
      have hcase : (vk = 0 ∧ cb = true) ∨ (vk = 0 ∧ ck = 0 ∧ cb = false) ∨ (vk = 1 ∧ ck = 1) ∨ (vk = 2 ∧ ck = 2) := by
        rcases f2 with ⟨e1, e2⟩ | e1
        · exact .inl ⟨e1, e2⟩
        · have e1' : vk = ck := e1
          rcases f1 with ⟨h1, _⟩ | ⟨h1, _⟩ | ⟨h1, _⟩
          · have h1' : vk = 0 := h1
            cases cb with
            | true => exact .inl ⟨h1', rfl⟩
            | false => exact .inr (.inl ⟨h1', e1'.symm.trans h1', rfl⟩)
          · exact .inr (.inr (.inl ⟨h1, e1'.symm.trans h1⟩))
          · exact .inr (.inr (.inr ⟨h1, e1'.symm.trans h1⟩))
      clear f1 f2
      rcases hcase with ⟨rfl, rfl⟩ | ⟨rfl, rfl, rfl⟩ | ⟨rfl, rfl⟩ | ⟨rfl, rfl⟩
      · skip
        simp only [show ((((0 : UInt8)).toNat : Nat) : Int) = 0 from rfl] at x0 y0 y1 y2
        go_wp2_with fail
        refine (HV.out _ (0, vn, vs) HF.out).mono ?_
        rintro e w3 ⟨rfl, hf3⟩
        have z0 := blk_cell (hf3.blk (blk_two1 wr _ _) (fun f => f)) 0
        have z1 := blk_cell (hf3.blk (blk_two2 wr _ _) (fun f => f)) 1
        have z2 := blk_cell (hf3.blk (blk_two2 wr _ _) (fun f => f)) 2
        simp at z0 z1 z2
        have H3 := Lib.hid (I.out.next (((Fr.refl No wr).alloc _).alloc _ |>.next hf3 (fun _ _ f => f.elim)) (fun _ _ f => f.elim))
        clear hf3
        go_wp2_with fail
        go_roundw
        case rel => exact ⟨k + 1, by omega, by go_num, H3.out⟩
        case measure => simp [intOf]; omega
      · skip
        simp only [show ((((0 : UInt8)).toNat : Nat) : Int) = 0 from rfl] at x0 y0 y1 y2
        go_wp2_with fail
        refine (HV.out _ (0, vn, vs) HF.out).mono ?_
        rintro e w3 ⟨rfl, hf3⟩
        have z0 := blk_cell (hf3.blk (blk_two1 wr _ _) (fun f => f)) 0
        have z1 := blk_cell (hf3.blk (blk_two2 wr _ _) (fun f => f)) 1
        have z2 := blk_cell (hf3.blk (blk_two2 wr _ _) (fun f => f)) 2
        simp at z0 z1 z2
        have H3 := Lib.hid (I.out.next (((Fr.refl No wr).alloc _).alloc _ |>.next hf3 (fun _ _ f => f.elim)) (fun _ _ f => f.elim))
        clear hf3
        go_wp2_with fail
        go_roundw
        case rel => exact ⟨k + 1, by omega, by go_num, H3.out⟩
        case measure => simp [intOf]; omega
      · skip
        simp only [show ((((1 : UInt8)).toNat : Nat) : Int) = 1 from rfl] at x0 y0 y1 y2
        go_wp2_with fail
        refine (HV.out _ (1, vn, vs) HF.out).mono ?_
        rintro e w3 ⟨rfl, hf3⟩
        have z0 := blk_cell (hf3.blk (blk_two1 wr _ _) (fun f => f)) 0
        have z1 := blk_cell (hf3.blk (blk_two2 wr _ _) (fun f => f)) 1
        have z2 := blk_cell (hf3.blk (blk_two2 wr _ _) (fun f => f)) 2
        simp at z0 z1 z2
        have H3 := Lib.hid (I.out.next (((Fr.refl No wr).alloc _).alloc _ |>.next hf3 (fun _ _ f => f.elim)) (fun _ _ f => f.elim))
        clear hf3
        go_wp2_with fail
        go_roundw
        case rel => exact ⟨k + 1, by omega, by go_num, H3.out⟩
        case measure => simp [intOf]; omega
      · skip
        simp only [show ((((2 : UInt8)).toNat : Nat) : Int) = 2 from rfl] at x0 y0 y1 y2
        go_wp2_with fail
        refine (HV.out _ (2, vn, vs) HF.out).mono ?_
        rintro e w3 ⟨rfl, hf3⟩
        have z0 := blk_cell (hf3.blk (blk_two1 wr _ _) (fun f => f)) 0
        have z1 := blk_cell (hf3.blk (blk_two2 wr _ _) (fun f => f)) 1
        have z2 := blk_cell (hf3.blk (blk_two2 wr _ _) (fun f => f)) 2
        simp at z0 z1 z2
        have H3 := Lib.hid (I.out.next (((Fr.refl No wr).alloc _).alloc _ |>.next hf3 (fun _ _ f => f.elim)) (fun _ _ f => f.elim))
        clear hf3
        go_wp2_with fail
        go_roundw
        case rel => exact ⟨k + 1, by omega, by go_num, H3.out⟩
        case measure => simp [intOf]; omega
    · obtain rfl : k = row.length := by omega
      go_wp2_with fail
      go_ret
      exact ⟨rfl, I.out⟩
end Go.Proofs.YtlmhphejgahfbaaGreatDoor
/- Numbers' bytes: record.number; order.one, value.Encode of a number. -/
set_option linter.unusedVariables false
set_option linter.unusedSimpArgs false
namespace Go.Proofs.YtlmhphejgahfbaaGreatDoor
open Go.RowKit

theorem top_xor (x : Nat) (h : x < 18446744073709551616) : x ^^^ 9223372036854775808 = (x + 9223372036854775808) % 18446744073709551616 := by
  apply Nat.eq_of_testBit_eq
  intro i
  rw [show (18446744073709551616 : Nat) = 2 ^ 64 from rfl, show (9223372036854775808 : Nat) = 2 ^ 63 from rfl, Nat.testBit_mod_two_pow, Nat.testBit_xor, Nat.testBit_two_pow, Nat.add_comm]
  rcases Nat.lt_trichotomy i 63 with hi | hi | hi
  · rw [Nat.testBit_two_pow_add_gt hi]
    simp [show i < 64 by omega, show ¬ 63 = i by omega]
  · subst hi
    rw [Nat.testBit_two_pow_add_eq]
    simp
  · have hx : x.testBit i = false := Nat.testBit_lt_two_pow (Nat.lt_of_lt_of_le h (Nat.pow_le_pow_right (n := 2) (by omega) (show 64 ≤ i by omega)))
    simp [show ¬ i < 64 by omega, show ¬ 63 = i by omega, hx]
/-- A number with its sign turned. -/
def keyN (n : Int) : Nat := (n + 9223372036854775808).toNat
theorem keyN_lt {n : Int} (h : n < 9223372036854775808) : keyN n < 18446744073709551616 := by unfold keyN; omega
theorem xor_sign (n : Int) (h0 : -9223372036854775808 ≤ n) (h1 : n < 9223372036854775808) : bits .xor .u64 (IntKind.u64.wrap n) 9223372036854775808 = (keyN n : Int) := by
  show IntKind.u64.wrap (((BitVec.ofInt 64 (IntKind.u64.wrap n) ^^^ BitVec.ofInt 64 9223372036854775808 : BitVec 64)).toNat : Int) = _
  have hw : IntKind.u64.wrap n = n % 18446744073709551616 := rfl
  rw [BitVec.toNat_xor, BitVec.toNat_ofInt, hw, show (BitVec.ofInt 64 9223372036854775808).toNat = 9223372036854775808 from by decide]
  have e : ((n % 18446744073709551616) % ((2 ^ 64 : Nat) : Int)).toNat = (n % 18446744073709551616).toNat := by
    rw [show ((2 ^ 64 : Nat) : Int) = 18446744073709551616 from rfl, Int.emod_emod_of_dvd _ (Int.dvd_refl _)]
  rw [e, top_xor _ (by omega)]
  show (((n % 18446744073709551616).toNat + 9223372036854775808) % 18446744073709551616 : Nat) % (18446744073709551616 : Int) = _
  unfold keyN
  omega

/-- A text with its noughts marked. -/
def esc (l : Bs) : Bs := l.flatMap fun b => if b = 0 then [0, 255] else [b]
/-- A value in a key. -/
def oneB (v : Val) : Bs := if v.1 = 1 then 2 :: beN (keyN v.2.1) 8 else if v.1 = 2 then 3 :: (esc (keyB v.2.2) ++ [0, 1]) else [1]
/-- A value in a row. -/
def encB (v : Val) : Bs := v.1 :: (if v.1 = 1 then beN (v.2.1 % 18446744073709551616).toNat 8 else if v.1 = 2 then beN v.2.2.size 2 ++ keyB v.2.2 else [])
/-- A call's bytes of its own. -/
def OwnB (w : World) (p : Bs) (e : Ending) (w' : World) : Prop := ∃ A c, e = .returned (.slice A p.length c) ∧ Ow Ty.u8 5 w' (fun i => w.heap.size ≤ i) (.slice A p.length c) p ∧ Fr No w w'

set_option maxHeartbeats 1000000 in
set_option maxRecDepth 100000 in
theorem one_int {w : World} (n : Int) (h0 : -9223372036854775808 ≤ n) (h1 : n < 9223372036854775808) : Calls Tryz.prog 177 #[vA (vI n)] w (OwnB w (oneB (vI n))) := by
  have hx := xor_sign n h0 h1
  have hkl := keyN_lt h1
  show Calls _ _ _ w (OwnB w (2 :: beN (keyN n) 8))
  have hlenp : (2 :: beN (keyN n) 8).length = 9 := by rw [List.length_cons, beN_len]
  show Calls _ _ #[.agg #[.int .u8 1, .int .i64 n, .string ⟨#[]⟩]] _ _
  obtain ⟨N, hN⟩ : ∃ N, keyN n = N := ⟨_, rfl⟩
  rw [hN] at hx hkl hlenp ⊢
  unfold OwnB
  rw [hlenp]
  have hn0 : (0 : Int) ≤ (N : Int) := Int.natCast_nonneg _
  obtain ⟨W, hW⟩ : ∃ W, W = (w.alloc (.cells #[.int .u8 1, .int .i64 n, .string ⟨#[]⟩] 35)).alloc (.cells #[.int .u8 2] 5) := ⟨_, rfl⟩
  have hOW : Ow Ty.u8 5 W (fun k => w.heap.size ≤ k) (.slice (some ⟨w.heap.size + 1, 0, none⟩) 1 1) [2] := by
    have := ow_new1 (w := w.alloc (.cells #[.int .u8 1, .int .i64 n, .string ⟨#[]⟩] 35)) 2 (x := 2) rfl
    rw [hW]
    rw [World.size_alloc] at this
    exact this.mono fun i hi _ => by omega
  have hfW : Fr No w W := by rw [hW]; exact ((Fr.refl No w).alloc _).alloc _
  have HW := Lib.hid (And.intro hOW hfW)
  clear hOW hfW h0 h1 hN hkl hlenp
  go_enter Tryz.func177, Tryz.ntmps177
  go_wp2_with fail
  rw [← hW]
  clear hW
  go_loopw [3, 5] (fun v s wr => ∃ (j : Nat) (e : Int) (A' : Option Addr) (c' : Nat), j ≤ 8 ∧ e = 7 - (j : Int) ∧ v = .slice A' (1 + j) c' ∧ s = .int .i64 e ∧ Hid (Ow Ty.u8 5 wr (fun i => w.heap.size ≤ i) (.slice A' (1 + j) c') ([2] ++ (beN N 8).take j) ∧ Fr No w wr)) (fun _ s _ => (intOf s + 1).toNat)
  case atStart => exact ⟨0, _, _, 1, by omega, by omega, rfl, rfl, by simpa using HW.out.1, HW.out.2⟩
  case round =>
    obtain ⟨j, e, A', c', hj, he, rfl, rfl, I⟩ := hrel
    by_cases hlt : 0 ≤ e
    · obtain ⟨r, rfl⟩ := Int.eq_ofNat_of_zero_le hlt
      have hr7 : (r : Int) ≤ 7 := by omega
      have hjl : j < (beN N 8).length := by rw [beN_len]; omega
      have hb := beN_get N 8 j (by omega)
      rw [show 8 - 1 - j = r by omega] at hb
      obtain ⟨b, hbb⟩ : ∃ b, UInt8.ofNat (N / 2 ^ (8 * r)) = b := ⟨_, rfl⟩
      have qb : (b.toNat : Int) = (N : Int) / 2 ^ (8 * r) % 256 := by
        rw [← hbb, UInt8.toNat_ofNat', Int.natCast_emod, Int.natCast_ediv, Int.natCast_pow]; rfl
      have hnext : [2] ++ (beN N 8).take j ++ [b] = [2] ++ (beN N 8).take (j + 1) := by rw [List.take_succ_eq_append_getElem hjl, hb, hbb, List.append_assoc]
      have hlen : ([2] ++ (beN N 8).take j).length = 1 + j := by rw [List.length_append, List.length_take, beN_len]; simp; omega
      obtain ⟨W1, hW1⟩ : ∃ W1, W1 = wr.alloc (.cells #[.int .u8 ((N : Int) / 2 ^ (8 * r) % 256)] 5) := ⟨_, rfl⟩
      have hf1 : Fr No wr W1 := by rw [hW1]; exact (Fr.refl No wr).alloc _
      have hA : At W1 (some ⟨wr.heap.size, 0, none⟩) [.int .u8 (b.toNat : Int)] := by
        rw [hW1, qb]; exact At.block (heap_alloc_new wr _)
      have hO := I.out.1.fr0 hf1
      obtain ⟨A1, c1, w1, hrun, hO1, hg1, _⟩ := run_ow_append (P := Tryz.prog) (ty := 46) (ty' := 46) Ty.u8 hO (.int .u8 0) 1 Tryz.underlying46 info_u8 rfl (by decide) (by decide) 1 (ys := [b]) (row_u8b _ _ b) hA (by rw [hlen]; simp; omega)
      rw [hlen] at hrun hO1
      rw [hnext] at hO1
      have hf2 : Fr No w w1 := (I.out.2.next hf1 (fun _ _ f => f.elim)).grown hg1 fun k hk => .inr (I.out.1.own hk).1
      have hsz : w.heap.size ≤ W1.heap.size := Nat.le_trans I.out.2.size hf1.size
      have HH := Lib.hid (And.intro hO1 (And.intro hf2 hsz))
      clear hsz hO1 hf2 hg1 hO hA hf1 hlen hnext qb hbb hb hjl
      have HE2 := Lib.hid he
      clear he
      simp only [List.length_singleton] at hrun HH
      go_wp2_with (at_builtin; rw [← hW1]; refine wpList_plain rfl fun K hK => wp_append_run _ _ _ _ rfl rfl rfl hrun (hK _ _ ?_))
      go_roundw
      case rel => exact ⟨j + 1, (r : Int) - 1, A1, c1, by have := HE2.out; omega, by have := HE2.out; omega, rfl, by go_num, HH.out.1.mono fun i hi _ => by (have := HH.out.2.2; rcases hi with hi | hi <;> omega), HH.out.2.1⟩
      case measure => simp [intOf]
    · obtain rfl : j = 8 := by omega
      have ht : (beN N 8).take 8 = beN N 8 := List.take_of_length_le (by rw [beN_len]; omega)
      rw [ht] at I
      clear ht
      go_wp2_with fail
      go_ret
      exact ⟨A', c', rfl, I.out.1, I.out.2⟩

theorem enc_byte (n : Int) (r : Nat) (hr : r ≤ 7) : ((UInt8.ofNat ((n % 18446744073709551616).toNat / 2 ^ (8 * r))).toNat : Int) = n / 2 ^ (8 * r) % 256 := by
  rw [UInt8.toNat_ofNat', Int.natCast_emod, Int.natCast_ediv, Int.natCast_pow, Int.toNat_of_nonneg (by omega)]
  have : r = 0 ∨ r = 1 ∨ r = 2 ∨ r = 3 ∨ r = 4 ∨ r = 5 ∨ r = 6 ∨ r = 7 := by omega
  rcases this with rfl | rfl | rfl | rfl | rfl | rfl | rfl | rfl <;> simp only [Nat.reduceMul, Int.reducePow, Nat.reducePow, Int.cast_ofNat_Int] <;> omega
set_option maxHeartbeats 1000000 in
set_option maxRecDepth 100000 in
theorem enc_int {w : World} (n : Int) : Calls Tryz.prog 101 #[vA (vI n)] w (OwnB w (encB (vI n))) := by
  show Calls _ _ _ w (OwnB w (1 :: beN (n % 18446744073709551616).toNat 8))
  have hlenp : (1 :: beN (n % 18446744073709551616).toNat 8).length = 9 := by rw [List.length_cons, beN_len]
  show Calls _ _ #[.agg #[.int .u8 1, .int .i64 n, .string ⟨#[]⟩]] _ _
  have HE := Lib.hid (fun (r : Nat) (hr : r ≤ 7) => enc_byte n r hr)
  obtain ⟨N, hN⟩ : ∃ N, (n % 18446744073709551616).toNat = N := ⟨_, rfl⟩
  rw [hN] at hlenp HE ⊢
  unfold OwnB
  rw [hlenp]
  obtain ⟨W, hW⟩ : ∃ W, W = (w.alloc (.cells #[.int .u8 1, .int .i64 n, .string ⟨#[]⟩] 35)).alloc (.cells #[.int .u8 1] 5) := ⟨_, rfl⟩
  have hOW : Ow Ty.u8 5 W (fun k => w.heap.size ≤ k ∧ k ≠ w.heap.size) (.slice (some ⟨w.heap.size + 1, 0, none⟩) 1 1) [1] := by
    have := ow_new1 (w := w.alloc (.cells #[.int .u8 1, .int .i64 n, .string ⟨#[]⟩] 35)) 1 (x := 1) rfl
    rw [hW]
    rw [World.size_alloc] at this
    exact this.mono fun i hi _ => by omega
  have hfW : Fr No w W := by rw [hW]; exact ((Fr.refl No w).alloc _).alloc _
  have hvW : W.heap[w.heap.size]? = some (.cells #[.int .u8 1, .int .i64 n, .string ⟨#[]⟩] 35 (0, 0)) := by rw [hW]; exact blk_two1 w _ _
  have hzW : w.heap.size < W.heap.size := by rw [hW]; simp; omega
  have HW := Lib.hid (And.intro hOW (And.intro hfW (And.intro hvW hzW)))
  have v0 := blk_cell hvW 0
  simp at v0
  clear hOW hfW hN hlenp hvW hzW
  go_enter Tryz.func101, Tryz.ntmps101
  go_wp2_with fail
  rw [← hW]
  clear hW
  go_wp2_with fail
  go_loopw [3, 4] (fun v s wr => ∃ (j : Nat) (e : Int) (A' : Option Addr) (c' : Nat), j ≤ 8 ∧ e = 7 - (j : Int) ∧ v = .slice A' (1 + j) c' ∧ s = .int .i64 e ∧ wr.cell? ⟨w.heap.size, 1, none⟩ = some (.int .i64 n) ∧ Hid (Ow Ty.u8 5 wr (fun i => w.heap.size ≤ i ∧ i ≠ w.heap.size) (.slice A' (1 + j) c') ([1] ++ (beN N 8).take j) ∧ Fr No w wr ∧ w.heap.size < wr.heap.size)) (fun _ s _ => (intOf s + 1).toNat)
  case atStart => exact ⟨0, _, _, 1, by omega, by omega, rfl, rfl, by have := blk_cell HW.out.2.2.1 1; simpa using this, by simpa using HW.out.1, HW.out.2.1, HW.out.2.2.2⟩
  case round =>
    obtain ⟨j, e, A', c', hj, he, rfl, rfl, hc, I⟩ := hrel
    by_cases hlt : 0 ≤ e
    · obtain ⟨r, rfl⟩ := Int.eq_ofNat_of_zero_le hlt
      have hr7 : (r : Int) ≤ 7 := by omega
      have hjl : j < (beN N 8).length := by rw [beN_len]; omega
      have hb := beN_get N 8 j (by omega)
      rw [show 8 - 1 - j = r by omega] at hb
      obtain ⟨b, hbb⟩ : ∃ b, UInt8.ofNat (N / 2 ^ (8 * r)) = b := ⟨_, rfl⟩
      have qb : (b.toNat : Int) = n / 2 ^ (8 * r) % 256 := by rw [← hbb]; exact HE.out r (by omega)
      have hnext : [1] ++ (beN N 8).take j ++ [b] = [1] ++ (beN N 8).take (j + 1) := by rw [List.take_succ_eq_append_getElem hjl, hb, hbb, List.append_assoc]
      have hlen : ([1] ++ (beN N 8).take j).length = 1 + j := by rw [List.length_append, List.length_take, beN_len]; simp; omega
      obtain ⟨W1, hW1⟩ : ∃ W1, W1 = wr.alloc (.cells #[.int .u8 (n / 2 ^ (8 * r) % 256)] 5) := ⟨_, rfl⟩
      have hf1 : Fr No wr W1 := by rw [hW1]; exact (Fr.refl No wr).alloc _
      have hA : At W1 (some ⟨wr.heap.size, 0, none⟩) [.int .u8 (b.toNat : Int)] := by
        rw [hW1, qb]; exact At.block (heap_alloc_new wr _)
      have hO := I.out.1.fr0 hf1
      obtain ⟨A1, c1, w1, hrun, hO1, hg1, _⟩ := run_ow_append (P := Tryz.prog) (ty := 46) (ty' := 46) Ty.u8 hO (.int .u8 0) 1 Tryz.underlying46 info_u8 rfl (by decide) (by decide) 1 (ys := [b]) (row_u8b _ _ b) hA (by rw [hlen]; simp; omega)
      rw [hlen] at hrun hO1
      rw [hnext] at hO1
      have hf2 : Fr No w w1 := (I.out.2.1.next hf1 (fun _ _ f => f.elim)).grown hg1 fun k hk => .inr (I.out.1.own hk).1.1
      have hc1 : w1.cell? ⟨w.heap.size, 1, none⟩ = some (.int .i64 n) := ((hf1.mono (G := fun i => i ≠ w.heap.size) fun _ _ f => f.elim).grown hg1 fun k hk => .inl (I.out.1.own hk).1.2).cell hc (fun f => f rfl)
      have hsz : w.heap.size < W1.heap.size := Nat.lt_of_lt_of_le I.out.2.2 hf1.size
      have hsz1 : w.heap.size < w1.heap.size := Nat.lt_of_lt_of_le hsz hg1.size
      have HH := Lib.hid (And.intro hO1 (And.intro hf2 (And.intro hsz (And.intro hc1 hsz1))))
      clear hsz hO1 hf2 hg1 hO hA hf1 hlen hnext qb hbb hb hjl hc1 hsz1
      have HE2 := Lib.hid he
      clear he
      simp only [List.length_singleton] at hrun HH
      go_wp2_with (at_builtin; rw [← hW1]; refine wpList_plain rfl fun K hK => wp_append_run _ _ _ _ rfl rfl rfl hrun (hK _ _ ?_))
      go_roundw
      case rel => exact ⟨j + 1, (r : Int) - 1, A1, c1, by have := HE2.out; omega, by have := HE2.out; omega, rfl, by go_num, HH.out.2.2.2.1, HH.out.1.mono fun i hi _ => by (have := HH.out.2.2.1; rcases hi with hi | hi; exact hi; exact ⟨by omega, by omega⟩), HH.out.2.1, HH.out.2.2.2.2⟩
      case measure => simp [intOf]
    · obtain rfl : j = 8 := by omega
      have ht : (beN N 8).take 8 = beN N 8 := List.take_of_length_le (by rw [beN_len]; omega)
      rw [ht] at I
      clear ht
      go_wp2_with fail
      go_ret
      exact ⟨A', c', rfl, I.out.1.mono fun i hi _ => hi.1, I.out.2.1⟩
end Go.Proofs.YtlmhphejgahfbaaGreatDoor
