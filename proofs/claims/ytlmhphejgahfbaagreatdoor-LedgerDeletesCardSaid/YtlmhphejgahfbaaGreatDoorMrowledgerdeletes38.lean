/- Texts of this claim, one behind the other: Dec. -/
import Derived.Test.YtlmhphejgahfbaaGreatDoorMrowledgerdeletesKTxt
import Derived.Test.YtlmhphejgahfbaaGreatDoorMrowledgerdeletesKOnce
/- value.take, value.number, Decode. -/
set_option linter.unusedVariables false
set_option linter.unusedSimpArgs false
namespace Go.Proofs.YtlmhphejgahfbaaGreatDoor
open Go.RowKit

set_option maxHeartbeats 1000000 in
set_option maxRecDepth 100000 in
theorem take_ok {w : World} {F : Nat → Prop} {A : Option Addr} {n c k : Nat} {p : Bs} (h : Rd Ty.u8 w F A p) (hn : n = p.length) (hk : k ≤ n) (hc : n ≤ c) :
    Calls Tryz.prog 209 #[.slice A n c, .int .i64 (k : Int)] w fun e w' => ∃ A1 A2, e = .returned (.tuple #[.slice A1 k c, .slice A2 (n - k) (c - k), .bool true]) ∧ Rd Ty.u8 w' F A1 (p.take k) ∧ Rd Ty.u8 w' F A2 (p.drop k) ∧ Fr No w w' := by
  have hki : ¬ (n : Int) < (k : Int) := by omega
  obtain ⟨A1, hs1, hr1⟩ := cut_hi (P := Tryz.prog) Ty.u8 46 5 .i64 Tryz.underlying46 info_u8s A n c k hk hc
  obtain ⟨A2, hs2, hr2⟩ := cut_lo (P := Tryz.prog) Ty.u8 46 5 .i64 Tryz.underlying46 info_u8s A n c k hk hc
  have HH := Lib.hid (And.intro (hr1 w F p hn.symm h) (And.intro (hr2 w F p hn.symm h) (Fr.refl No w)))
  clear hr1 hr2 h hn hk hc
  go_enter Tryz.func209, Tryz.ntmps209
  go_wp2_with fail
  refine wp_region_tail 8 (fun _ => True) (by kernel_rfl) trivial (fun hHeld => ?_)
  refine WalkTail.take (i := 0) (v := ?v0) rfl (by kernel_rfl) (fun _ _ _ h => h) (Or.inl ⟨by rfl, ?hy0⟩) (by assumption) ?_
  case hy0 => (intro w hSw; (try dsimp only at hSw); go_simp; try with_reducible rfl)
  (try simp only [Act.put, List.setIfInBounds_toArray, List.set_cons_zero, List.set_cons_succ])
  refine WalkTail.take (i := 1) (v := ?v1) rfl (by kernel_rfl) (fun _ _ _ h => h) (Or.inl ⟨by rfl, ?hy1⟩) (by assumption) ?_
  case hy1 => (intro w hSw; (try dsimp only at hSw); go_simp; try with_reducible rfl)
  (try simp only [Act.put, List.setIfInBounds_toArray, List.set_cons_zero, List.set_cons_succ])
  refine WalkTail.take (i := 2) (v := ?v2) rfl (by kernel_rfl) (fun _ _ _ h => h) (Or.inl ⟨by rfl, ?hy2⟩) (by assumption) ?_
  case hy2 => (intro w hSw; (try dsimp only at hSw); go_simp; try with_reducible rfl)
  (try simp only [Act.put, List.setIfInBounds_toArray, List.set_cons_zero, List.set_cons_succ])
  refine WalkTail.take (i := 3) (v := ?v3) rfl (by kernel_rfl) (fun _ _ _ h => h) (Or.inl ⟨by rfl, ?hy3⟩) (by assumption) ?_
  case hy3 => (intro w hSw; (try dsimp only at hSw); go_simp; try with_reducible rfl)
  (try simp only [Act.put, List.setIfInBounds_toArray, List.set_cons_zero, List.set_cons_succ])
  refine WalkTail.take (i := 4) (v := ?v4) rfl (by kernel_rfl) (fun _ _ _ h => h) (Or.inl ⟨by rfl, ?hy4⟩) (by assumption) ?_
  case hy4 => (intro w hSw; (try dsimp only at hSw); go_simp; try with_reducible rfl)
  (try simp only [Act.put, List.setIfInBounds_toArray, List.set_cons_zero, List.set_cons_succ])
  refine WalkTail.take (i := 5) (v := ?v5) rfl (by kernel_rfl) (fun _ _ _ h => h) (Or.inl ⟨by rfl, ?hy5⟩) (by assumption) ?_
  case hy5 => (intro w hSw; (try dsimp only at hSw); go_simp; try with_reducible rfl)
  (try simp only [Act.put, List.setIfInBounds_toArray, List.set_cons_zero, List.set_cons_succ])
  refine WalkTail.take (i := 6) (v := ?v6) rfl (by kernel_rfl) (fun _ _ _ h => h) (Or.inl ⟨by rfl, ?hy6⟩) (by assumption) ?_
  case hy6 => (intro w hSw; (try dsimp only at hSw); go_simp; try with_reducible rfl)
  (try simp only [Act.put, List.setIfInBounds_toArray, List.set_cons_zero, List.set_cons_succ])
  refine WalkTail.take (i := 7) (v := ?v7) rfl (by kernel_rfl) (fun _ _ _ h => h) (Or.inl ⟨by rfl, ?hy7⟩) (by assumption) ?_
  case hy7 => (intro w hSw; (try dsimp only at hSw); go_simp; try with_reducible rfl)
  (try simp only [Act.put, List.setIfInBounds_toArray, List.set_cons_zero, List.set_cons_succ])
  refine WalkTail.last rfl (by kernel_rfl) (by kernel_rfl) (fun K hK => ?_)
  go_simp
  refine hK.out _ _ ?_
  clear hK K
  go_wp2_with fail
  go_ret3
  have hf : Fr No w w.drew := (Fr.refl No w).drew
  exact ⟨A1, A2, rfl, HH.out.1.fr0 hf, HH.out.2.1.fr0 hf, hf⟩
/-- Bytes as a number, the highest first. -/
def numB (p : Bs) : Nat := p.foldl (fun n b => n * 256 + b.toNat) 0
theorem numB_snoc (p : Bs) (b : UInt8) : numB (p ++ [b]) = numB p * 256 + b.toNat := by unfold numB; rw [List.foldl_append]; rfl
theorem numB_acc (p : Bs) : ∀ a : Nat, p.foldl (fun n b => n * 256 + b.toNat) a < (a + 1) * 256 ^ p.length := by
  induction p with
  | nil => intro a; simp
  | cons b p ih =>
    intro a
    have h := ih (a * 256 + b.toNat)
    have hb := b.toNat_lt
    rw [List.foldl_cons, List.length_cons, Nat.pow_succ]
    refine Nat.lt_of_lt_of_le h ?_
    rw [Nat.mul_comm (256 ^ p.length) 256, ← Nat.mul_assoc]
    exact Nat.mul_le_mul_right _ (by omega)
theorem numB_lt (p : Bs) : numB p < 256 ^ p.length := by
  have := numB_acc p 0
  rw [Nat.zero_add, Nat.one_mul] at this
  exact this
theorem or_byte (n b : Nat) (hn : n < 72057594037927936) (hb : b < 256) : bits .or .u64 ((n : Int) * 256) (b : Int) = ((n * 256 + b : Nat) : Int) := by
  show IntKind.u64.wrap (((BitVec.ofInt 64 ((n : Int) * 256) ||| BitVec.ofInt 64 (b : Int) : BitVec 64)).toNat : Int) = _
  have e1 : (BitVec.ofInt 64 ((n : Int) * 256)).toNat = n * 256 := by
    rw [BitVec.toNat_ofInt]
    show ((n : Int) * 256 % 18446744073709551616).toNat = _
    omega
  have e2 : (BitVec.ofInt 64 (b : Int)).toNat = b := by
    rw [BitVec.toNat_ofInt]
    show ((b : Int) % 18446744073709551616).toNat = _
    omega
  rw [BitVec.toNat_or, e1, e2]
  have e3 : n * 256 ||| b = n * 256 + b := by
    rw [show n * 256 = 256 * n by omega, show (256 : Nat) = 2 ^ 8 from rfl]
    exact (Nat.two_pow_add_eq_or_of_lt (by simpa using hb) n).symm
  rw [e3]
  show ((n * 256 + b : Nat) : Int) % 18446744073709551616 = _
  omega
set_option maxHeartbeats 1000000 in
set_option maxRecDepth 100000 in
theorem numv_ok {w : World} {F : Nat → Prop} {A : Option Addr} {n c : Nat} {p : Bs} (h : Rd Ty.u8 w F A p) (hn : n = p.length) (h8 : p.length ≤ 8) :
    Calls Tryz.prog 211 #[.slice A n c] w fun e w' => e = .returned (.int .u64 (numB p : Int)) ∧ Fr No w w' := by
  have hn8 : (n : Int) ≤ 8 := by omega
  have H := Lib.hid (And.intro h (And.intro hn h8))
  clear h hn h8
  go_enter Tryz.func211, Tryz.ntmps211
  go_wp2_with fail
  go_loopw [3, 8] (fun v iv wr => ∃ k : Nat, k ≤ n ∧ iv = .int .i64 (k : Int) ∧ v = .int .u64 (numB (p.take k) : Int) ∧ Hid (Fr No w wr)) (fun _ iv _ => n - (intOf iv).toNat)
  case atStart => exact ⟨0, Nat.zero_le _, rfl, rfl, Fr.refl No w⟩
  case round =>
    obtain ⟨k, hk, rfl, rfl, I⟩ := hrel
    have hk0 : (0 : Int) ≤ (k : Int) := Int.natCast_nonneg _
    by_cases hlt : k < n
    · have hk1 : (k : Int) < (n : Int) := by omega
      have hkp : k < p.length := by have := H.out.2.1; omega
      obtain ⟨ad, rfl, x0⟩ := u8_atF (H.out.1.fr0 I.out) hkp
      have hnx : numB (p.take (k + 1)) = numB (p.take k) * 256 + p[k].toNat := by rw [List.take_succ_eq_append_getElem hkp, numB_snoc]
      have hlt56 : numB (p.take k) < 72057594037927936 := by
        have h1 := numB_lt (p.take k)
        rw [List.length_take] at h1
        have h2 : 256 ^ min k p.length ≤ 256 ^ 7 := Nat.pow_le_pow_right (by decide) (by have := H.out.2.2; omega)
        have h3 : (256 : Nat) ^ 7 = 72057594037927936 := by decide
        omega
      have hor := or_byte (numB (p.take k)) p[k].toNat hlt56 p[k].toNat_lt
      obtain ⟨B, hB⟩ : ∃ B, p[k] = B := ⟨_, rfl⟩
      obtain ⟨m, hm⟩ : ∃ m, numB (p.take k) = m := ⟨_, rfl⟩
      obtain ⟨m2, hm2⟩ : ∃ m2, numB (p.take (k + 1)) = m2 := ⟨_, rfl⟩
      rw [hB] at x0 hor hnx
      rw [hm] at hor hnx hlt56 ⊢
      rw [hm2] at hnx
      rw [← hnx] at hor
      have hw56 : IntKind.u64.wrap ((m : Int) * 256) = (m : Int) * 256 := IntWalk.u64_in _ (by omega)
      have HM := Lib.hid (And.intro hm2 I.out)
      have hwB : IntKind.u64.wrap (B.toNat : Int) = (B.toNat : Int) := IntWalk.u64_in _ (by have := B.toNat_lt; omega)
      clear hnx hB hm hm2 hlt56 I
      go_wp2_with fail
      go_roundw
      case rel => exact ⟨k + 1, by omega, by go_num, by rw [HM.out.1], HM.out.2⟩
      case measure => simp [intOf]; omega
    · obtain rfl : k = n := by omega
      have he : numB (p.take k) = numB p := by rw [List.take_of_length_le (by have := H.out.2.1; omega)]
      rw [he]
      clear he
      go_wp2_with fail
      go_ret
      exact ⟨rfl, I.out⟩
/-! ### Decode -/
set_option maxHeartbeats 4000000 in
set_option maxRecDepth 100000 in
theorem decode_null {w : World} {F : Nat → Prop} {A : Option Addr} {n c : Nat} {p rest : Bs} (h : Rd Ty.u8 w F A p) (hn : n = p.length) (hc : n ≤ c) (hl : p.length ≤ 100000) (hp : p = encB (0, 0, ⟨#[]⟩) ++ rest) :
    Calls Tryz.prog 174 #[.slice A n c] w fun e w' => ∃ A' c', e = .returned (.tuple #[vA (0, 0, ⟨#[]⟩), .slice A' rest.length c', .int .i64 0]) ∧ Ow Ty.u8 5 w' (fun i => w.heap.size ≤ i) (.slice A' rest.length c') rest ∧ Fr No w w' := by
  have hp' : p = 0 :: rest := hp
  obtain ⟨m, hm⟩ : ∃ m, rest.length = m := ⟨_, rfl⟩
  have hn1 : n = m + 1 := by rw [hn, hp', List.length_cons, hm]
  subst hn1
  rw [hm]
  have H := Lib.hid (And.intro h (And.intro hn (And.intro hl (And.intro hp' hm))))
  have hmi : (m : Int) ≤ 100000 := by rw [← hn] at hl; omega
  clear h hn hl hp hp' hm
  go_enter Tryz.func174, Tryz.ntmps174
  have hfa : Fr No w (w.alloc (.cells #[.int .u8 0, .int .i64 0, .string ⟨#[]⟩] 35)) := (Fr.refl No w).alloc _
  have htk := take_ok (k := 1) (H.out.1.fr0 hfa) H.out.2.1 (by omega) hc
  rw [H.out.2.2.2.1] at htk
  have HT := Lib.hid (And.intro htk (And.intro hfa (heap_alloc_new w (.cells #[.int .u8 0, .int .i64 0, .string ⟨#[]⟩] 35))))
  clear htk hfa
  go_wp2_with fail
  refine HT.out.1.mono ?_
  rintro e w1 ⟨A1, A2, rfl, hr1, hr2, hf1⟩
  have hr1' : Rd Ty.u8 w1 F A1 [0] := hr1
  have hr2' : Rd Ty.u8 w1 F A2 rest := hr2
  obtain ⟨a1, rfl, x0⟩ := u8_atF hr1' (i := 0) (by decide)
  have x0' : w1.cell? (a1.add 0) = some (.int .u8 0) := x0
  rw [add_zero'] at x0'
  have x0'' := cell_alloc x0' (.cells #[.int .u8 0, .int .i64 0, .string ⟨#[]⟩] 35)
  have bR1 := hf1.blk HT.out.2.2 (fun f => f)
  have H1 := Lib.hid (And.intro hr2' (And.intro (HT.out.2.1.next hf1 (fun _ _ f => f.elim)) bR1))
  clear hr1 hr1' hr2 hr2' hf1 x0 bR1
  go_wp2_with fail
  obtain ⟨wx, hwx⟩ : ∃ wx, wx = w1.alloc (.cells #[.int .u8 0, .int .i64 0, .string ⟨#[]⟩] 35) := ⟨_, rfl⟩
  have hfx : Fr No w1 wx := by rw [hwx]; exact (Fr.refl No w1).alloc _
  have bV : wx.heap[w1.heap.size]? = some (.cells #[.int .u8 0, .int .i64 0, .string ⟨#[]⟩] 35 (0, 0)) := by rw [hwx]; exact heap_alloc_new w1 _
  have HX := Lib.hid (And.intro (hfx.blk H1.out.2.2 (fun f => f)) (And.intro bV (And.intro (H1.out.1.fr0 hfx) (H1.out.2.1.next hfx (fun _ _ f => f.elim)))))
  have hVB : w.heap.size < w1.heap.size := blk_lt H1.out.2.2
  obtain ⟨vb, hvb⟩ : ∃ vb, w1.heap.size = vb := ⟨_, rfl⟩
  rw [hvb] at HX hVB ⊢
  have hcl : m ≤ c - 1 := by omega
  rw [← hwx]
  clear hwx hfx bV hvb x0' x0''
  have v0 := blk_cell HX.out.2.1 0
  have v1 := blk_cell HX.out.2.1 1
  have v2 := blk_cell HX.out.2.1 2
  simp at v0 v1 v2
  have HC := Lib.hid fun (wy : World) (f : Fr No wx wy) => clone_ok (c := (c - 1)) (HX.out.2.2.1.fr0 f) H.out.2.2.2.2.symm (by have h1 := H.out.2.2.1; have h2 := H.out.2.2.2.2; have h3 := H.out.2.1; omega)
  have HF := Lib.hid (Fr.refl No wx)
  refine wp_region_tail 5 (fun w' => w'.cell? ⟨vb, 0, none⟩ = some (.int .u8 0) ∧ w'.cell? ⟨vb, 1, none⟩ = some (.int .i64 0) ∧ w'.cell? ⟨vb, 2, none⟩ = some (.string ⟨#[]⟩)) (by kernel_rfl) (by exact ⟨v0, v1, v2⟩) (fun hHeld => ?_)
  refine WalkTail.take (i := 0) (v := ?vn0) rfl (by kernel_rfl) (fun _ _ _ h => h) (Or.inl ⟨by rfl, ?hyn0⟩) (by assumption) ?_
  case hyn0 => (intro w hSw; (try dsimp only at hSw); go_simp; try with_reducible rfl)
  (try simp only [Act.put, List.setIfInBounds_toArray, List.set_cons_zero, List.set_cons_succ])
  refine WalkTail.take (i := 1) (v := ?vn1) rfl (by kernel_rfl) (fun _ _ _ h => h) (Or.inl ⟨by rfl, ?hyn1⟩) (by assumption) ?_
  case hyn1 => (intro w hSw; (try dsimp only at hSw); go_simp; try with_reducible rfl)
  (try simp only [Act.put, List.setIfInBounds_toArray, List.set_cons_zero, List.set_cons_succ])
  refine WalkTail.one (i := 2) rfl (by kernel_rfl) (by decide) (fun K hK => ?_)
  go_simp
  go_at_call 100
  refine (HC.out _ (by repeat (first | exact HF.out | apply Fr.drew | apply Fr.drewN))).mono ?_
  rintro e wc ⟨Ac, cc, rfl, hoc, hfc⟩
  have hgc : Fr No wx wc := Fr.next (G := No) (by repeat (first | exact HF.out | apply Fr.drew | apply Fr.drewN)) hfc (fun _ _ f => f.elim)
  rw [H.out.2.2.2.2] at hoc ⊢
  have v0 := hgc.cell v0 (fun f => f)
  have v1 := hgc.cell v1 (fun f => f)
  have v2 := hgc.cell v2 (fun f => f)
  have hoc' : Ow Ty.u8 5 wc (fun i => w.heap.size < i) (.slice Ac m cc) rest := hoc.mono fun i hi _ => by
    have h1 := blk_lt HX.out.2.1
    have h2 : wx.heap.size ≤ i := hi
    omega
  have bR := hgc.blk HX.out.1 (fun f => f)
  have HY := Lib.hid (And.intro hoc' (And.intro (HX.out.2.2.2.next hgc (fun _ _ f => f.elim)) bR))
  have r0 := blk_cell bR 0
  have r1 := blk_cell bR 1
  have r2 := blk_cell bR 2
  have z0 := blk_frozen bR 0
  have z1 := blk_frozen bR 1
  have z2 := blk_frozen bR 2
  simp at r0 r1 r2
  clear hoc hoc' hgc hfc bR
  go_wp2_with fail
  refine hK.out _ _ ?_ (fun hHeld => ?_)
  · exact ⟨v0, v1, v2⟩
  clear hK K
  (try simp only [Act.put, List.setIfInBounds_toArray, List.set_cons_zero, List.set_cons_succ])
  refine WalkTail.one (i := 3) rfl (by kernel_rfl) (by decide) (fun K hK => ?_)
  go_simp
  obtain ⟨w9, hw9⟩ : ∃ w9, w9 = ((wc.setCell ⟨w.heap.size, 0, none⟩ (.int .u8 0)).setCell ⟨w.heap.size, 1, none⟩ (.int .i64 0)).setCell ⟨w.heap.size, 2, none⟩ (.string ⟨#[]⟩) := ⟨_, rfl⟩
  rw [← hw9]
  have hf9 : Fr (fun i => i = w.heap.size) wc w9 := by rw [hw9]; exact (((Fr.refl (fun i => i = w.heap.size) wc).set ⟨w.heap.size, 0, none⟩ (.inl rfl) _).set ⟨w.heap.size, 1, none⟩ (.inl rfl) _).set ⟨w.heap.size, 2, none⟩ (.inl rfl) _
  have bR9 : w9.heap[w.heap.size]? = some (.cells #[(.int .u8 0), (.int .i64 0), (.string ⟨#[]⟩)] 35 (0, 0)) := by
    rw [hw9]
    have h1 := blk_set (blk_set (blk_set HY.out.2.2 0 (.int .u8 0)) 1 (.int .i64 0)) 2 (.string ⟨#[]⟩)
    simpa using h1
  have v0 := hf9.cell v0 (show ¬ vb = w.heap.size by omega)
  have v1 := hf9.cell v1 (show ¬ vb = w.heap.size by omega)
  have v2 := hf9.cell v2 (show ¬ vb = w.heap.size by omega)
  have d0 := blk_cell bR9 0
  have d1 := blk_cell bR9 1
  have d2 := blk_cell bR9 2
  simp at d0 d1 d2
  have H9 := Lib.hid (And.intro ((HY.out.1.fr hf9 (fun i hi e => by omega)).mono (G := fun i => w.heap.size ≤ i) fun i hi _ => Nat.le_of_lt hi) (HY.out.2.1.next hf9 (fun i hi e => by omega)))
  clear hw9 hf9 bR9 r0 r1 r2 z0 z1 z2
  refine hK.out _ _ ?_ (fun hHeld => ?_)
  · exact ⟨v0, v1, v2⟩
  clear hK K
  (try simp only [Act.put, List.setIfInBounds_toArray, List.set_cons_zero, List.set_cons_succ])
  refine WalkTail.take (i := 4) (v := ?vn4) rfl (by kernel_rfl) (fun _ _ _ h => h) (Or.inl ⟨by rfl, ?hyn4⟩) (by assumption) ?_
  case hyn4 => (intro w hSw; (try dsimp only at hSw); go_simp; try with_reducible rfl)
  (try simp only [Act.put, List.setIfInBounds_toArray, List.set_cons_zero, List.set_cons_succ])
  refine WalkTail.last rfl (by kernel_rfl) (by kernel_rfl) (fun K hK => ?_)
  go_simp
  refine hK.out _ _ ?_
  clear hK K
  go_wp2_with fail
  refine bodyPost_ret (v := .tuple #[.agg #[(.int .u8 0), (.int .i64 0), (.string ⟨#[]⟩)], .slice Ac m cc, .int .i64 0]) (by simp [results, Tryz.results174, go_sem, d0, d1, d2]) rfl ⟨Ac, cc, rfl, H9.out.1, H9.out.2⟩
theorem numB_be8 (x : Nat) (h : x < 18446744073709551616) : numB (beN x 8) = x := by
  have hb : beN x 8 = [UInt8.ofNat (x / 2 ^ 56), UInt8.ofNat (x / 2 ^ 48), UInt8.ofNat (x / 2 ^ 40), UInt8.ofNat (x / 2 ^ 32), UInt8.ofNat (x / 2 ^ 24), UInt8.ofNat (x / 2 ^ 16), UInt8.ofNat (x / 2 ^ 8), UInt8.ofNat x] := by
    unfold beN; simp [List.range_succ]
  rw [hb]
  unfold numB
  simp only [List.foldl_cons, List.foldl_nil, UInt8.toNat_ofNat', Nat.reducePow]
  omega
theorem numB_be2 (x : Nat) (h : x < 65536) : numB (beN x 2) = x := by
  have hb : beN x 2 = [UInt8.ofNat (x / 2 ^ 8), UInt8.ofNat x] := by
    unfold beN; simp [List.range_succ]
  rw [hb]
  unfold numB
  simp only [List.foldl_cons, List.foldl_nil, UInt8.toNat_ofNat', Nat.reducePow]
  omega
theorem wrap_back (n : Int) (h0 : -9223372036854775808 ≤ n) (h1 : n < 9223372036854775808) : IntKind.i64.wrap ((n % 18446744073709551616).toNat : Int) = n := by
  rw [IntKind.wrap_i64]; omega
set_option maxHeartbeats 4000000 in
set_option maxRecDepth 100000 in
theorem decode_int {w : World} {F : Nat → Prop} {A : Option Addr} {n c : Nat} {p rest : Bs} (N : Int) (hN0 : -9223372036854775808 ≤ N) (hN1 : N < 9223372036854775808) (h : Rd Ty.u8 w F A p) (hn : n = p.length) (hc : n ≤ c) (hl : p.length ≤ 100000) (hp : p = encB (vI N) ++ rest) :
    Calls Tryz.prog 174 #[.slice A n c] w fun e w' => ∃ A' c', e = .returned (.tuple #[vA (vI N), .slice A' rest.length c', .int .i64 0]) ∧ Ow Ty.u8 5 w' (fun i => w.heap.size ≤ i) (.slice A' rest.length c') rest ∧ Fr No w w' := by
  have hp' : p = 1 :: (beN (N % 18446744073709551616).toNat 8 ++ rest) := hp
  have hbl : (beN (N % 18446744073709551616).toNat 8).length = 8 := beN_len _ _
  have hnum : numB (beN (N % 18446744073709551616).toNat 8) = (N % 18446744073709551616).toNat := numB_be8 _ (by omega)
  have hwb := wrap_back N hN0 hN1
  obtain ⟨be, hbe⟩ : ∃ be, beN (N % 18446744073709551616).toNat 8 = be := ⟨_, rfl⟩
  obtain ⟨u, hu⟩ : ∃ u, (N % 18446744073709551616).toNat = u := ⟨_, rfl⟩
  rw [hbe] at hp' hbl hnum
  rw [hu] at hnum hwb
  obtain ⟨m, hm⟩ : ∃ m, rest.length = m := ⟨_, rfl⟩
  have hn1 : n = m + 8 + 1 := by rw [hn, hp', List.length_cons, List.length_append, hbl, hm]; omega
  subst hn1
  rw [hm]
  have H := Lib.hid (And.intro (h.mono (G := fun i => i < w.heap.size) fun i _ hl => hl) (And.intro hn (And.intro hl (And.intro hp' hm))))
  have HB := Lib.hid (And.intro hbl hnum)
  have hmi : (m : Int) ≤ 100000 := by rw [← hn] at hl; omega
  clear h hn hl hp hp' hm hbl hnum hbe hu hN0 hN1
  go_enter Tryz.func174, Tryz.ntmps174
  go_wp2_with fail
  have hfa : Fr No w (w.alloc (.cells #[.int .u8 0, .int .i64 0, .string ⟨#[]⟩] 35)) := (Fr.refl No w).alloc _
  have htk := take_ok (k := 1) (H.out.1.fr0 hfa) H.out.2.1 (by omega) hc
  rw [H.out.2.2.2.1] at htk
  have HT := Lib.hid (And.intro htk (And.intro hfa (heap_alloc_new w (.cells #[.int .u8 0, .int .i64 0, .string ⟨#[]⟩] 35))))
  clear htk hfa
  refine HT.out.1.mono ?_
  rintro e w1 ⟨A1, A2, rfl, hr1, hr2, hf1⟩
  have hr1' : Rd Ty.u8 w1 (fun i => i < w.heap.size) A1 [1] := hr1
  have hr2' : Rd Ty.u8 w1 (fun i => i < w.heap.size) A2 (be ++ rest) := hr2
  obtain ⟨a1, rfl, x0⟩ := u8_atF hr1' (i := 0) (by decide)
  have x0' : w1.cell? (a1.add 0) = some (.int .u8 1) := x0
  rw [add_zero'] at x0'
  have x0'' := cell_alloc x0' (.cells #[.int .u8 1, .int .i64 0, .string ⟨#[]⟩] 35)
  have bR1 := hf1.blk HT.out.2.2 (fun f => f)
  have hfv : Fr No w1 (w1.alloc (.cells #[.int .u8 1, .int .i64 0, .string ⟨#[]⟩] 35)) := (Fr.refl No w1).alloc _
  have htk := take_ok (n := m + 8) (c := c - 1) (k := 8) (hr2'.fr0 hfv) (by rw [List.length_append, HB.out.1, H.out.2.2.2.2]; omega) (by omega) (by omega)
  rw [List.take_left' HB.out.1, List.drop_left' HB.out.1, show m + 8 - 8 = m by omega] at htk
  have H1 := Lib.hid (And.intro htk (And.intro (HT.out.2.1.next (hf1.next hfv (fun _ _ f => f.elim)) (fun _ _ f => f.elim)) (And.intro (hfv.blk bR1 (fun f => f)) (And.intro (heap_alloc_new w1 (.cells #[.int .u8 1, .int .i64 0, .string ⟨#[]⟩] 35)) (blk_lt bR1)))))
  clear hr1 hr1' hr2 hr2' hf1 x0 bR1 htk hfv
  go_wp2_with fail
  refine H1.out.1.mono ?_
  rintro e w2 ⟨A3, A4, rfl, hr3, hr4, hf2⟩
  have hnm := numv_ok (n := 8) (c := c - 1) hr3 HB.out.1.symm (by rw [HB.out.1]; decide)
  rw [HB.out.2] at hnm
  have H2 := Lib.hid (And.intro hnm (And.intro hr4 (And.intro (H1.out.2.1.next hf2 (fun _ _ f => f.elim)) (And.intro (hf2.blk H1.out.2.2.1 (fun f => f)) (hf2.blk H1.out.2.2.2.1 (fun f => f))))))
  clear hr3 hr4 hf2 hnm x0' x0''
  go_wp2_with fail
  refine H2.out.1.mono ?_
  rintro e w3 ⟨rfl, hf3⟩
  have hVB := H1.out.2.2.2.2
  obtain ⟨vb, hvb⟩ : ∃ vb, w1.heap.size = vb := ⟨_, rfl⟩
  have bV3 := hf3.blk H2.out.2.2.2.2 (fun f => f)
  have bR3 := hf3.blk H2.out.2.2.2.1 (fun f => f)
  rw [hvb] at hVB bV3 ⊢
  have g0 := blk_cell bV3 0
  have g1 := blk_cell bV3 1
  have g2 := blk_cell bV3 2
  have z1 := blk_frozen bV3 1
  simp at g0 g1 g2
  have H3 := Lib.hid (And.intro (H2.out.2.1.fr0 hf3) (And.intro (H2.out.2.2.1.next hf3 (fun _ _ f => f.elim)) (And.intro bR3 bV3)))
  clear hf3 hvb bV3 bR3
  go_wp2_with fail
  obtain ⟨wx, hwx⟩ : ∃ wx, wx = w3.setCell ⟨vb, 1, none⟩ (.int .i64 N) := ⟨_, rfl⟩
  rw [← hwx]
  have hfx : Fr (fun i => i = vb) w3 wx := by rw [hwx]; exact (Fr.refl (fun i => i = vb) w3).set ⟨vb, 1, none⟩ (.inl rfl) _
  have bV : wx.heap[vb]? = some (.cells #[.int .u8 1, .int .i64 N, .string ⟨#[]⟩] 35 (0, 0)) := by
    rw [hwx]
    have := blk_set H3.out.2.2.2 1 (.int .i64 N)
    simpa using this
  have HX := Lib.hid (And.intro (hfx.blk H3.out.2.2.1 (fun e => by omega)) (And.intro bV (And.intro (H3.out.1.fr hfx (fun i (hi : i < w.heap.size) (e : i = vb) => by omega)) (H3.out.2.1.next hfx (fun i hi e => by have e' : i = vb := e; omega)))))
  clear hwx hfx bV g0 g1 g2 z1
  have v0 := blk_cell HX.out.2.1 0
  have v1 := blk_cell HX.out.2.1 1
  have v2 := blk_cell HX.out.2.1 2
  simp at v0 v1 v2
  have HC := Lib.hid fun (wy : World) (f : Fr No wx wy) => clone_ok (c := (c - 1 - 8)) (HX.out.2.2.1.fr0 f) H.out.2.2.2.2.symm (by have h1 := H.out.2.2.1; have h2 := H.out.2.2.2.2; have h3 := H.out.2.1; omega)
  have HF := Lib.hid (Fr.refl No wx)
  refine wp_region_tail 5 (fun w' => w'.cell? ⟨vb, 0, none⟩ = some (.int .u8 1) ∧ w'.cell? ⟨vb, 1, none⟩ = some (.int .i64 N) ∧ w'.cell? ⟨vb, 2, none⟩ = some (.string ⟨#[]⟩)) (by kernel_rfl) (by exact ⟨v0, v1, v2⟩) (fun hHeld => ?_)
  refine WalkTail.take (i := 0) (v := ?vi0) rfl (by kernel_rfl) (fun _ _ _ h => h) (Or.inl ⟨by rfl, ?hyi0⟩) (by assumption) ?_
  case hyi0 => (intro w hSw; (try dsimp only at hSw); go_simp; try with_reducible rfl)
  (try simp only [Act.put, List.setIfInBounds_toArray, List.set_cons_zero, List.set_cons_succ])
  refine WalkTail.take (i := 1) (v := ?vi1) rfl (by kernel_rfl) (fun _ _ _ h => h) (Or.inl ⟨by rfl, ?hyi1⟩) (by assumption) ?_
  case hyi1 => (intro w hSw; (try dsimp only at hSw); go_simp; try with_reducible rfl)
  (try simp only [Act.put, List.setIfInBounds_toArray, List.set_cons_zero, List.set_cons_succ])
  refine WalkTail.one (i := 2) rfl (by kernel_rfl) (by decide) (fun K hK => ?_)
  go_simp
  go_at_call 100
  refine (HC.out _ (by repeat (first | exact HF.out | apply Fr.drew | apply Fr.drewN))).mono ?_
  rintro e wc ⟨Ac, cc, rfl, hoc, hfc⟩
  have hgc : Fr No wx wc := Fr.next (G := No) (by repeat (first | exact HF.out | apply Fr.drew | apply Fr.drewN)) hfc (fun _ _ f => f.elim)
  rw [H.out.2.2.2.2] at hoc ⊢
  have v0 := hgc.cell v0 (fun f => f)
  have v1 := hgc.cell v1 (fun f => f)
  have v2 := hgc.cell v2 (fun f => f)
  have hoc' : Ow Ty.u8 5 wc (fun i => w.heap.size < i) (.slice Ac m cc) rest := hoc.mono fun i hi _ => by
    have h1 := blk_lt HX.out.2.1
    have h2 : wx.heap.size ≤ i := hi
    omega
  have bR := hgc.blk HX.out.1 (fun f => f)
  have HY := Lib.hid (And.intro hoc' (And.intro (HX.out.2.2.2.next hgc (fun _ _ f => f.elim)) bR))
  have r0 := blk_cell bR 0
  have r1 := blk_cell bR 1
  have r2 := blk_cell bR 2
  have z0 := blk_frozen bR 0
  have z1 := blk_frozen bR 1
  have z2 := blk_frozen bR 2
  simp at r0 r1 r2
  clear hoc hoc' hgc hfc bR
  go_wp2_with fail
  refine hK.out _ _ ?_ (fun hHeld => ?_)
  · exact ⟨v0, v1, v2⟩
  clear hK K
  (try simp only [Act.put, List.setIfInBounds_toArray, List.set_cons_zero, List.set_cons_succ])
  refine WalkTail.one (i := 3) rfl (by kernel_rfl) (by decide) (fun K hK => ?_)
  go_simp
  obtain ⟨w9, hw9⟩ : ∃ w9, w9 = ((wc.setCell ⟨w.heap.size, 0, none⟩ (.int .u8 1)).setCell ⟨w.heap.size, 1, none⟩ (.int .i64 N)).setCell ⟨w.heap.size, 2, none⟩ (.string ⟨#[]⟩) := ⟨_, rfl⟩
  rw [← hw9]
  have hf9 : Fr (fun i => i = w.heap.size) wc w9 := by rw [hw9]; exact (((Fr.refl (fun i => i = w.heap.size) wc).set ⟨w.heap.size, 0, none⟩ (.inl rfl) _).set ⟨w.heap.size, 1, none⟩ (.inl rfl) _).set ⟨w.heap.size, 2, none⟩ (.inl rfl) _
  have bR9 : w9.heap[w.heap.size]? = some (.cells #[(.int .u8 1), (.int .i64 N), (.string ⟨#[]⟩)] 35 (0, 0)) := by
    rw [hw9]
    have h1 := blk_set (blk_set (blk_set HY.out.2.2 0 (.int .u8 1)) 1 (.int .i64 N)) 2 (.string ⟨#[]⟩)
    simpa using h1
  have v0 := hf9.cell v0 (show ¬ vb = w.heap.size by omega)
  have v1 := hf9.cell v1 (show ¬ vb = w.heap.size by omega)
  have v2 := hf9.cell v2 (show ¬ vb = w.heap.size by omega)
  have d0 := blk_cell bR9 0
  have d1 := blk_cell bR9 1
  have d2 := blk_cell bR9 2
  simp at d0 d1 d2
  have H9 := Lib.hid (And.intro ((HY.out.1.fr hf9 (fun i hi e => by omega)).mono (G := fun i => w.heap.size ≤ i) fun i hi _ => Nat.le_of_lt hi) (HY.out.2.1.next hf9 (fun i hi e => by omega)))
  clear hw9 hf9 bR9 r0 r1 r2 z0 z1 z2
  refine hK.out _ _ ?_ (fun hHeld => ?_)
  · exact ⟨v0, v1, v2⟩
  clear hK K
  (try simp only [Act.put, List.setIfInBounds_toArray, List.set_cons_zero, List.set_cons_succ])
  refine WalkTail.take (i := 4) (v := ?vi4) rfl (by kernel_rfl) (fun _ _ _ h => h) (Or.inl ⟨by rfl, ?hyi4⟩) (by assumption) ?_
  case hyi4 => (intro w hSw; (try dsimp only at hSw); go_simp; try with_reducible rfl)
  (try simp only [Act.put, List.setIfInBounds_toArray, List.set_cons_zero, List.set_cons_succ])
  refine WalkTail.last rfl (by kernel_rfl) (by kernel_rfl) (fun K hK => ?_)
  go_simp
  refine hK.out _ _ ?_
  clear hK K
  go_wp2_with fail
  refine bodyPost_ret (v := .tuple #[.agg #[(.int .u8 1), (.int .i64 N), (.string ⟨#[]⟩)], .slice Ac m cc, .int .i64 0]) (by simp [results, Tryz.results174, go_sem, d0, d1, d2]) rfl ⟨Ac, cc, rfl, H9.out.1, H9.out.2⟩
set_option maxHeartbeats 4000000 in
set_option maxRecDepth 100000 in
theorem decode_text {w : World} {F : Nat → Prop} {A : Option Addr} {n c : Nat} {p rest : Bs} (S : ByteArray) (hS : S.size ≤ 200) (h : Rd Ty.u8 w F A p) (hn : n = p.length) (hc : n ≤ c) (hl : p.length ≤ 100000) (hp : p = encB (2, 0, S) ++ rest) :
    Calls Tryz.prog 174 #[.slice A n c] w fun e w' => ∃ A' c', e = .returned (.tuple #[vA (2, 0, S), .slice A' rest.length c', .int .i64 0]) ∧ Ow Ty.u8 5 w' (fun i => w.heap.size ≤ i) (.slice A' rest.length c') rest ∧ Fr No w w' := by
  have hp' : p = 2 :: (beN S.size 2 ++ (keyB S ++ rest)) := by rw [hp]; show 2 :: (beN S.size 2 ++ keyB S) ++ rest = _; simp
  have hbl : (beN S.size 2).length = 2 := beN_len _ _
  have hnum : numB (beN S.size 2) = S.size := numB_be2 _ (by omega)
  obtain ⟨be, hbe⟩ : ∃ be, beN S.size 2 = be := ⟨_, rfl⟩
  rw [hbe] at hp' hbl hnum
  have hkl : (keyB S).length = S.size := keyB_len S
  obtain ⟨kb, hkb⟩ : ∃ kb, keyB S = kb := ⟨_, rfl⟩
  have hSk : (⟨kb.toArray⟩ : ByteArray) = S := by rw [← hkb]; simp [keyB]
  rw [hkb] at hp' hkl
  obtain ⟨u, hu⟩ : ∃ u, S.size = u := ⟨_, rfl⟩
  rw [hu] at hnum hkl hS
  obtain ⟨m, hm⟩ : ∃ m, rest.length = m := ⟨_, rfl⟩
  have hn1 : n = m + u + 2 + 1 := by rw [hn, hp', List.length_cons, List.length_append, List.length_append, hbl, hkl, hm]; omega
  subst hn1
  rw [hm]
  have H := Lib.hid (And.intro (h.mono (G := fun i => i < w.heap.size) fun i _ hl => hl) (And.intro hn (And.intro hl (And.intro hp' hm))))
  have HB := Lib.hid (And.intro hbl (And.intro hnum (And.intro hkl hSk)))
  have hmi : (m : Int) ≤ 100000 := by rw [← hn] at hl; omega
  have hui : (u : Int) ≤ 200 := by omega
  have hu0 : (0 : Int) ≤ (u : Int) := Int.natCast_nonneg _
  clear h hn hl hp hp' hm hbl hnum hbe hu hkl hSk hkb
  go_enter Tryz.func174, Tryz.ntmps174
  go_wp2_with fail
  have hfa : Fr No w (w.alloc (.cells #[.int .u8 0, .int .i64 0, .string ⟨#[]⟩] 35)) := (Fr.refl No w).alloc _
  have htk := take_ok (k := 1) (H.out.1.fr0 hfa) H.out.2.1 (by omega) hc
  rw [H.out.2.2.2.1] at htk
  have HT := Lib.hid (And.intro htk (And.intro hfa (heap_alloc_new w (.cells #[.int .u8 0, .int .i64 0, .string ⟨#[]⟩] 35))))
  clear htk hfa
  refine HT.out.1.mono ?_
  rintro e w1 ⟨A1, A2, rfl, hr1, hr2, hf1⟩
  have hr1' : Rd Ty.u8 w1 (fun i => i < w.heap.size) A1 [2] := hr1
  have hr2' : Rd Ty.u8 w1 (fun i => i < w.heap.size) A2 (be ++ (kb ++ rest)) := hr2
  obtain ⟨a1, rfl, x0⟩ := u8_atF hr1' (i := 0) (by decide)
  have x0' : w1.cell? (a1.add 0) = some (.int .u8 2) := x0
  rw [add_zero'] at x0'
  have x0'' := cell_alloc x0' (.cells #[.int .u8 2, .int .i64 0, .string ⟨#[]⟩] 35)
  have bR1 := hf1.blk HT.out.2.2 (fun f => f)
  have hfv : Fr No w1 (w1.alloc (.cells #[.int .u8 2, .int .i64 0, .string ⟨#[]⟩] 35)) := (Fr.refl No w1).alloc _
  have htk := take_ok (n := m + u + 2) (c := c - 1) (k := 2) (hr2'.fr0 hfv) (by rw [List.length_append, List.length_append, HB.out.1, HB.out.2.2.1, H.out.2.2.2.2]; omega) (by omega) (by omega)
  rw [List.take_left' HB.out.1, List.drop_left' HB.out.1, show m + u + 2 - 2 = m + u by omega] at htk
  have H1 := Lib.hid (And.intro htk (And.intro (HT.out.2.1.next (hf1.next hfv (fun _ _ f => f.elim)) (fun _ _ f => f.elim)) (And.intro (hfv.blk bR1 (fun f => f)) (And.intro (heap_alloc_new w1 (.cells #[.int .u8 2, .int .i64 0, .string ⟨#[]⟩] 35)) (blk_lt bR1)))))
  clear hr1 hr1' hr2 hr2' hf1 x0 bR1 htk hfv
  go_wp2_with fail
  refine H1.out.1.mono ?_
  rintro e w2 ⟨A3, A4, rfl, hr3, hr4, hf2⟩
  have hnm := numv_ok (n := 2) (c := c - 1) hr3 HB.out.1.symm (by rw [HB.out.1]; decide)
  rw [HB.out.2.1] at hnm
  have H2 := Lib.hid (And.intro hnm (And.intro hr4 (And.intro (H1.out.2.1.next hf2 (fun _ _ f => f.elim)) (And.intro (hf2.blk H1.out.2.2.1 (fun f => f)) (hf2.blk H1.out.2.2.2.1 (fun f => f))))))
  clear hr3 hr4 hf2 hnm x0' x0''
  go_wp2_with fail
  refine H2.out.1.mono ?_
  rintro e w3 ⟨rfl, hf3⟩
  have htk := take_ok (n := m + u) (c := c - 1 - 2) (k := u) (H2.out.2.1.fr0 hf3) (by rw [List.length_append, HB.out.2.2.1, H.out.2.2.2.2]; omega) (by omega) (by omega)
  rw [List.take_left' HB.out.2.2.1, List.drop_left' HB.out.2.2.1, show m + u - u = m by omega] at htk
  have hwu : IntKind.i64.wrap (u : Int) = (u : Int) := IntWalk.i64_in _ (by omega)
  have HT3 := Lib.hid (And.intro htk (And.intro (H2.out.2.2.1.next hf3 (fun _ _ f => f.elim)) (And.intro (hf3.blk H2.out.2.2.2.1 (fun f => f)) (hf3.blk H2.out.2.2.2.2 (fun f => f)))))
  clear htk hf3
  go_wp2_with fail
  refine HT3.out.1.mono ?_
  rintro e w4 ⟨A5, A6, rfl, hr5, hr6, hf4⟩
  have hstr := run_str (c := c - 1 - 2) (n := u) hr5 HB.out.2.2.1.symm
  rw [HB.out.2.2.2] at hstr
  have hVB := H1.out.2.2.2.2
  obtain ⟨vb, hvb⟩ : ∃ vb, w1.heap.size = vb := ⟨_, rfl⟩
  have bV3 := hf4.blk HT3.out.2.2.2 (fun f => f)
  have bR3 := hf4.blk HT3.out.2.2.1 (fun f => f)
  rw [hvb] at hVB bV3 ⊢
  have g0 := blk_cell bV3 0
  have g1 := blk_cell bV3 1
  have g2 := blk_cell bV3 2
  have z2 := blk_frozen bV3 2
  simp at g0 g1 g2
  have H3 := Lib.hid (And.intro hr6 (And.intro (HT3.out.2.1.next hf4 (fun _ _ f => f.elim)) (And.intro bR3 bV3)))
  clear hf4 hvb bV3 bR3 hr6 hr5
  go_wp2_with fail
  obtain ⟨wx, hwx⟩ : ∃ wx, wx = w4.setCell ⟨vb, 2, none⟩ (.string S) := ⟨_, rfl⟩
  rw [← hwx]
  have hfx : Fr (fun i => i = vb) w4 wx := by rw [hwx]; exact (Fr.refl (fun i => i = vb) w4).set ⟨vb, 2, none⟩ (.inl rfl) _
  have bV : wx.heap[vb]? = some (.cells #[.int .u8 2, .int .i64 0, .string S] 35 (0, 0)) := by
    rw [hwx]
    have := blk_set H3.out.2.2.2 2 (.string S)
    simpa using this
  have HX := Lib.hid (And.intro (hfx.blk H3.out.2.2.1 (fun e => by omega)) (And.intro bV (And.intro (H3.out.1.fr hfx (fun i (hi : i < w.heap.size) (e : i = vb) => by omega)) (H3.out.2.1.next hfx (fun i hi e => by have e' : i = vb := e; omega)))))
  clear hwx hfx bV g0 g1 g2 z2 hstr
  have v0 := blk_cell HX.out.2.1 0
  have v1 := blk_cell HX.out.2.1 1
  have v2 := blk_cell HX.out.2.1 2
  simp at v0 v1 v2
  have HC := Lib.hid fun (wy : World) (f : Fr No wx wy) => clone_ok (c := (c - 1 - 2 - u)) (HX.out.2.2.1.fr0 f) H.out.2.2.2.2.symm (by have h1 := H.out.2.2.1; have h2 := H.out.2.2.2.2; have h3 := H.out.2.1; omega)
  have HF := Lib.hid (Fr.refl No wx)
  refine wp_region_tail 5 (fun w' => w'.cell? ⟨vb, 0, none⟩ = some (.int .u8 2) ∧ w'.cell? ⟨vb, 1, none⟩ = some (.int .i64 0) ∧ w'.cell? ⟨vb, 2, none⟩ = some (.string S)) (by kernel_rfl) (by exact ⟨v0, v1, v2⟩) (fun hHeld => ?_)
  refine WalkTail.take (i := 0) (v := ?vt0) rfl (by kernel_rfl) (fun _ _ _ h => h) (Or.inl ⟨by rfl, ?hyt0⟩) (by assumption) ?_
  case hyt0 => (intro w hSw; (try dsimp only at hSw); go_simp; try with_reducible rfl)
  (try simp only [Act.put, List.setIfInBounds_toArray, List.set_cons_zero, List.set_cons_succ])
  refine WalkTail.take (i := 1) (v := ?vt1) rfl (by kernel_rfl) (fun _ _ _ h => h) (Or.inl ⟨by rfl, ?hyt1⟩) (by assumption) ?_
  case hyt1 => (intro w hSw; (try dsimp only at hSw); go_simp; try with_reducible rfl)
  (try simp only [Act.put, List.setIfInBounds_toArray, List.set_cons_zero, List.set_cons_succ])
  refine WalkTail.one (i := 2) rfl (by kernel_rfl) (by decide) (fun K hK => ?_)
  go_simp
  go_at_call 100
  refine (HC.out _ (by repeat (first | exact HF.out | apply Fr.drew | apply Fr.drewN))).mono ?_
  rintro e wc ⟨Ac, cc, rfl, hoc, hfc⟩
  have hgc : Fr No wx wc := Fr.next (G := No) (by repeat (first | exact HF.out | apply Fr.drew | apply Fr.drewN)) hfc (fun _ _ f => f.elim)
  rw [H.out.2.2.2.2] at hoc ⊢
  have v0 := hgc.cell v0 (fun f => f)
  have v1 := hgc.cell v1 (fun f => f)
  have v2 := hgc.cell v2 (fun f => f)
  have hoc' : Ow Ty.u8 5 wc (fun i => w.heap.size < i) (.slice Ac m cc) rest := hoc.mono fun i hi _ => by
    have h1 := blk_lt HX.out.2.1
    have h2 : wx.heap.size ≤ i := hi
    omega
  have bR := hgc.blk HX.out.1 (fun f => f)
  have HY := Lib.hid (And.intro hoc' (And.intro (HX.out.2.2.2.next hgc (fun _ _ f => f.elim)) bR))
  have r0 := blk_cell bR 0
  have r1 := blk_cell bR 1
  have r2 := blk_cell bR 2
  have z0 := blk_frozen bR 0
  have z1 := blk_frozen bR 1
  have z2 := blk_frozen bR 2
  simp at r0 r1 r2
  clear hoc hoc' hgc hfc bR
  go_wp2_with fail
  refine hK.out _ _ ?_ (fun hHeld => ?_)
  · exact ⟨v0, v1, v2⟩
  clear hK K
  (try simp only [Act.put, List.setIfInBounds_toArray, List.set_cons_zero, List.set_cons_succ])
  refine WalkTail.one (i := 3) rfl (by kernel_rfl) (by decide) (fun K hK => ?_)
  go_simp
  obtain ⟨w9, hw9⟩ : ∃ w9, w9 = ((wc.setCell ⟨w.heap.size, 0, none⟩ (.int .u8 2)).setCell ⟨w.heap.size, 1, none⟩ (.int .i64 0)).setCell ⟨w.heap.size, 2, none⟩ (.string S) := ⟨_, rfl⟩
  rw [← hw9]
  have hf9 : Fr (fun i => i = w.heap.size) wc w9 := by rw [hw9]; exact (((Fr.refl (fun i => i = w.heap.size) wc).set ⟨w.heap.size, 0, none⟩ (.inl rfl) _).set ⟨w.heap.size, 1, none⟩ (.inl rfl) _).set ⟨w.heap.size, 2, none⟩ (.inl rfl) _
  have bR9 : w9.heap[w.heap.size]? = some (.cells #[(.int .u8 2), (.int .i64 0), (.string S)] 35 (0, 0)) := by
    rw [hw9]
    have h1 := blk_set (blk_set (blk_set HY.out.2.2 0 (.int .u8 2)) 1 (.int .i64 0)) 2 (.string S)
    simpa using h1
  have v0 := hf9.cell v0 (show ¬ vb = w.heap.size by omega)
  have v1 := hf9.cell v1 (show ¬ vb = w.heap.size by omega)
  have v2 := hf9.cell v2 (show ¬ vb = w.heap.size by omega)
  have d0 := blk_cell bR9 0
  have d1 := blk_cell bR9 1
  have d2 := blk_cell bR9 2
  simp at d0 d1 d2
  have H9 := Lib.hid (And.intro ((HY.out.1.fr hf9 (fun i hi e => by omega)).mono (G := fun i => w.heap.size ≤ i) fun i hi _ => Nat.le_of_lt hi) (HY.out.2.1.next hf9 (fun i hi e => by omega)))
  clear hw9 hf9 bR9 r0 r1 r2 z0 z1 z2
  refine hK.out _ _ ?_ (fun hHeld => ?_)
  · exact ⟨v0, v1, v2⟩
  clear hK K
  (try simp only [Act.put, List.setIfInBounds_toArray, List.set_cons_zero, List.set_cons_succ])
  refine WalkTail.take (i := 4) (v := ?vt4) rfl (by kernel_rfl) (fun _ _ _ h => h) (Or.inl ⟨by rfl, ?hyt4⟩) (by assumption) ?_
  case hyt4 => (intro w hSw; (try dsimp only at hSw); go_simp; try with_reducible rfl)
  (try simp only [Act.put, List.setIfInBounds_toArray, List.set_cons_zero, List.set_cons_succ])
  refine WalkTail.last rfl (by kernel_rfl) (by kernel_rfl) (fun K hK => ?_)
  go_simp
  refine hK.out _ _ ?_
  clear hK K
  go_wp2_with fail
  refine bodyPost_ret (v := .tuple #[.agg #[(.int .u8 2), (.int .i64 0), (.string S)], .slice Ac m cc, .int .i64 0]) (by simp [results, Tryz.results174, go_sem, d0, d1, d2]) rfl ⟨Ac, cc, rfl, H9.out.1, H9.out.2⟩
/-- Values that are read back. -/
def DecV (v : Val) : Prop := v = (0, 0, ⟨#[]⟩) ∨ (∃ N : Int, v = vI N ∧ -9223372036854775808 ≤ N ∧ N < 9223372036854775808) ∨ ∃ S : ByteArray, v = (2, 0, S) ∧ S.size ≤ 200
theorem decode_ok {w : World} {F : Nat → Prop} {A : Option Addr} {n c : Nat} {p rest : Bs} {v : Val} (hv : DecV v) (h : Rd Ty.u8 w F A p) (hn : n = p.length) (hc : n ≤ c) (hl : p.length ≤ 100000) (hp : p = encB v ++ rest) :
    Calls Tryz.prog 174 #[.slice A n c] w fun e w' => ∃ A' c', e = .returned (.tuple #[vA v, .slice A' rest.length c', .int .i64 0]) ∧ Ow Ty.u8 5 w' (fun i => w.heap.size ≤ i) (.slice A' rest.length c') rest ∧ Fr No w w' := by
  rcases hv with rfl | ⟨N, rfl, h0, h1⟩ | ⟨S, rfl, hS⟩
  · exact decode_null h hn hc hl hp
  · exact decode_int N h0 h1 h hn hc hl hp
  · exact decode_text S hS h hn hc hl hp
end Go.Proofs.YtlmhphejgahfbaaGreatDoor
