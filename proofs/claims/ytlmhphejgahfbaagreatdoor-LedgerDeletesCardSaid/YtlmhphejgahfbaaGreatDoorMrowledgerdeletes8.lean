/- Texts of this claim, one behind the other: Val. -/
import Derived.Test.YtlmhphejgahfbaaGreatDoorMrowledgerdeletes7
/- Values: value.Right; table.check, Check, CheckKey. -/
set_option linter.unusedVariables false
set_option linter.unusedSimpArgs false
namespace Go.Proofs.YtlmhphejgahfbaaGreatDoor
open Go.RowKit

abbrev Val := UInt8 × Int × ByteArray
abbrev tVal : Ty Val := Ty.pair Ty.u8 (Ty.pair (Ty.int .i64) Ty.str)
/-- A value as an aggregate. -/
def vA (v : Val) : Value := .agg #[.int .u8 (v.1.toNat : Int), .int .i64 v.2.1, .string v.2.2]
/-- A number as a value. -/
def vI (n : Int) : Val := (1, n, ⟨#[]⟩)
theorem val_at {w : World} {F : Nat → Prop} {A : Option Addr} {l : List Val} (h : Rd tVal w F A l) {i : Nat} (hi : i < l.length) :
    ∃ ad, A = some ad ∧ w.cell? (ad.add (i * 3)) = some (.int .u8 (l[i].1.toNat : Int)) ∧ w.cell? ⟨(ad.add (i * 3)).block, (ad.add (i * 3)).off + 1, none⟩ = some (.int .i64 l[i].2.1) ∧ w.cell? ⟨(ad.add (i * 3)).block, (ad.add (i * 3)).off + 2, none⟩ = some (.string l[i].2.2) := by
  obtain ⟨ad, cs, e, hk, h0, h1⟩ := h.get' hi (by decide)
  obtain ⟨c1, c2, rfl, k1, k2⟩ := hk
  obtain rfl : c1 = _ := k1
  obtain ⟨c3, c4, rfl, k3, k4⟩ := k2
  obtain rfl : c3 = _ := k3
  obtain rfl : c4 = _ := k4
  exact ⟨ad, e, h0 _ rfl, h1 1 _ (by decide) rfl, h1 2 _ (by decide) rfl⟩

/-- May a value be? -/
def valRight (v : Val) : Prop := (v.1 = 0 ∧ v.2.1 = 0 ∧ v.2.2 = ⟨#[]⟩) ∨ (v.1 = 1 ∧ v.2.2 = ⟨#[]⟩) ∨ (v.1 = 2 ∧ v.2.1 = 0 ∧ v.2.2.size ≤ 200)
/-- Does a value fit a column? -/
def valFits (c : Col) (v : Val) : Prop := valRight v ∧ ((v.1 = 0 ∧ c.2.2 = true) ∨ v.1 = c.2.1)
theorem valFits_int {c : Col} (n : Int) (h : c.2.1 = 1) : valFits c (vI n) := ⟨.inr (.inl ⟨rfl, rfl⟩), .inr h.symm⟩

set_option maxHeartbeats 400000 in
set_option maxRecDepth 100000 in
theorem val_right {w : World} (v : Val) (h : valRight v) : Calls Tryz.prog 162 #[vA v] w fun e w' => e = .returned (.bool true) ∧ Fr No w w' := by
  have hw := Lib.hid (Fr.refl No w)
  obtain ⟨k, n, s⟩ := v
  unfold vA
  rcases h with ⟨h1, h2, h3⟩ | ⟨h1, h3⟩ | ⟨h1, h2, h3⟩
  · obtain rfl : k = 0 := h1
    obtain rfl : n = 0 := h2
    obtain rfl : s = ⟨#[]⟩ := h3
    go_enter Tryz.func162, Tryz.ntmps162
    go_wp2_with fail
    go_ret
    exact ⟨rfl, by repeat (first | exact hw.out | apply Fr.alloc | apply Fr.drew | apply Fr.drewN)⟩
  · obtain rfl : k = 1 := h1
    obtain rfl : s = ⟨#[]⟩ := h3
    go_enter Tryz.func162, Tryz.ntmps162
    go_wp2_with fail
    go_ret
    exact ⟨rfl, by repeat (first | exact hw.out | apply Fr.alloc | apply Fr.drew | apply Fr.drewN)⟩
  · obtain rfl : k = 2 := h1
    obtain rfl : n = 0 := h2
    have hs : (s.size : Int) ≤ 200 := by have : s.size ≤ 200 := h3; omega
    clear h3
    go_enter Tryz.func162, Tryz.ntmps162
    go_wp2_with fail
    go_ret
    exact ⟨rfl, by repeat (first | exact hw.out | apply Fr.alloc | apply Fr.drew | apply Fr.drewN)⟩

theorem u8_ne {a b : UInt8} (h : a ≠ b) : (a.toNat : Int) ≠ (b.toNat : Int) := fun e => h (UInt8.toNat_inj.1 (by omega))
set_option maxHeartbeats 1000000 in
set_option maxRecDepth 100000 in
theorem check_ok {w : World} {F G : Nat → Prop} {A B : Option Addr} {m c n c' : Nat} {cols : List Col} {row : List Val} (hc : Rd tCol w F A cols) (hr : Rd tVal w G B row) (hm : m = cols.length) (hn : n = row.length) (hl : row.length = cols.length)
    (hf : ∀ i (h : i < row.length) (h' : i < cols.length), valFits cols[i] row[i]) :
    Calls Tryz.prog 98 #[.slice A m c, .slice B n c'] w fun e w' => e = .returned (.int .i64 0) ∧ Fr No w w' := by
  subst hm hn
  have hl63 : (row.length : Int) ≤ 9223372036854775807 := by have := hr.1; omega
  have H := Lib.hid (And.intro hc (And.intro hr hf))
  have HV := Lib.hid fun (w : World) (v : Val) (h : valRight v) => val_right (w := w) v h
  rw [← hl]
  have HL := Lib.hid hl
  clear hc hr hf hl
  go_enter Tryz.func98, Tryz.ntmps98
  go_wp2_with fail
  go_loopw [15] (fun iv wr => ∃ k : Nat, k ≤ row.length ∧ iv = .int .i64 (k : Int) ∧ Hid (Fr No w wr)) (fun iv _ => row.length - (intOf iv).toNat)
  case atStart => exact ⟨0, Nat.zero_le _, rfl, Fr.refl No w⟩
  case round =>
    obtain ⟨k, hk, rfl, I⟩ := hrel
    have hk0 : (0 : Int) ≤ (k : Int) := Int.natCast_nonneg _
    by_cases hlt : k < row.length
    · have hk1 : (k : Int) < (row.length : Int) := by omega
      have hlt' : k < cols.length := by have := HL.out; omega
      obtain ⟨ad, rfl, x0, x1, x2⟩ := val_at (H.out.2.1.fr0 I.out) hlt
      obtain ⟨ad', rfl, y0, y1, y2⟩ := col_at (H.out.1.fr0 (w' := wr.alloc (.cells #[.int .u8 (row[k].1.toNat : Int), .int .i64 row[k].2.1, .string row[k].2.2] 35)) (I.out.alloc _)) hlt'
      obtain ⟨f1, f2⟩ := H.out.2.2 k hlt hlt'
      obtain ⟨v, hv⟩ : ∃ v, row[k] = v := ⟨_, rfl⟩
      obtain ⟨cl, hcl⟩ : ∃ cl, cols[k] = cl := ⟨_, rfl⟩
      rw [hv] at x0 x1 x2 y0 y1 y2 f1 f2
      rw [hcl] at y0 y1 y2 f2
      clear hv hcl
      obtain ⟨vk, vn, vs⟩ := v
      obtain ⟨cn, ck, cb⟩ := cl
      dsimp only at x0 x1 x2 y0 y1 y2 f2
      have HF := Lib.hid f1
      have hcase : (vk = 0 ∧ cb = true) ∨ (vk = 0 ∧ ck = 0 ∧ cb = false) ∨ (vk = 1 ∧ ck = 1) ∨ (vk = 2 ∧ ck = 2) := by
        rcases f2 with ⟨e1, e2⟩ | e1
        · exact .inl ⟨e1, e2⟩
        · have e1' : vk = ck := e1
          rcases f1 with ⟨h1, _⟩ | ⟨h1, _⟩ | ⟨h1, _⟩
          · have h1' : vk = 0 := h1
            cases cb with
            | true => exact .inl ⟨h1', rfl⟩
            | false => exact .inr (.inl ⟨h1', e1'.symm.trans h1', rfl⟩)
          · exact .inr (.inr (.inl ⟨h1, e1'.symm.trans h1⟩))
          · exact .inr (.inr (.inr ⟨h1, e1'.symm.trans h1⟩))
      clear f1 f2
      rcases hcase with ⟨rfl, rfl⟩ | ⟨rfl, rfl, rfl⟩ | ⟨rfl, rfl⟩ | ⟨rfl, rfl⟩
      · skip
        simp only [show ((((0 : UInt8)).toNat : Nat) : Int) = 0 from rfl] at x0 y0 y1 y2
        go_wp2_with fail
        refine (HV.out _ (0, vn, vs) HF.out).mono ?_
        rintro e w3 ⟨rfl, hf3⟩
        have z0 := blk_cell (hf3.blk (blk_two1 wr _ _) (fun f => f)) 0
        have z1 := blk_cell (hf3.blk (blk_two2 wr _ _) (fun f => f)) 1
        have z2 := blk_cell (hf3.blk (blk_two2 wr _ _) (fun f => f)) 2
        simp at z0 z1 z2
        have H3 := Lib.hid (I.out.next (((Fr.refl No wr).alloc _).alloc _ |>.next hf3 (fun _ _ f => f.elim)) (fun _ _ f => f.elim))
        clear hf3
        go_wp2_with fail
        go_roundw
        case rel => exact ⟨k + 1, by omega, by go_num, H3.out⟩
        case measure => simp [intOf]; omega
      · skip
        simp only [show ((((0 : UInt8)).toNat : Nat) : Int) = 0 from rfl] at x0 y0 y1 y2
        go_wp2_with fail
        refine (HV.out _ (0, vn, vs) HF.out).mono ?_
        rintro e w3 ⟨rfl, hf3⟩
        have z0 := blk_cell (hf3.blk (blk_two1 wr _ _) (fun f => f)) 0
        have z1 := blk_cell (hf3.blk (blk_two2 wr _ _) (fun f => f)) 1
        have z2 := blk_cell (hf3.blk (blk_two2 wr _ _) (fun f => f)) 2
        simp at z0 z1 z2
        have H3 := Lib.hid (I.out.next (((Fr.refl No wr).alloc _).alloc _ |>.next hf3 (fun _ _ f => f.elim)) (fun _ _ f => f.elim))
        clear hf3
        go_wp2_with fail
        go_roundw
        case rel => exact ⟨k + 1, by omega, by go_num, H3.out⟩
        case measure => simp [intOf]; omega
      · skip
        simp only [show ((((1 : UInt8)).toNat : Nat) : Int) = 1 from rfl] at x0 y0 y1 y2
        go_wp2_with fail
        refine (HV.out _ (1, vn, vs) HF.out).mono ?_
        rintro e w3 ⟨rfl, hf3⟩
        have z0 := blk_cell (hf3.blk (blk_two1 wr _ _) (fun f => f)) 0
        have z1 := blk_cell (hf3.blk (blk_two2 wr _ _) (fun f => f)) 1
        have z2 := blk_cell (hf3.blk (blk_two2 wr _ _) (fun f => f)) 2
        simp at z0 z1 z2
        have H3 := Lib.hid (I.out.next (((Fr.refl No wr).alloc _).alloc _ |>.next hf3 (fun _ _ f => f.elim)) (fun _ _ f => f.elim))
        clear hf3
        go_wp2_with fail
        go_roundw
        case rel => exact ⟨k + 1, by omega, by go_num, H3.out⟩
        case measure => simp [intOf]; omega
      · skip
        simp only [show ((((2 : UInt8)).toNat : Nat) : Int) = 2 from rfl] at x0 y0 y1 y2
        go_wp2_with fail
        refine (HV.out _ (2, vn, vs) HF.out).mono ?_
        rintro e w3 ⟨rfl, hf3⟩
        have z0 := blk_cell (hf3.blk (blk_two1 wr _ _) (fun f => f)) 0
        have z1 := blk_cell (hf3.blk (blk_two2 wr _ _) (fun f => f)) 1
        have z2 := blk_cell (hf3.blk (blk_two2 wr _ _) (fun f => f)) 2
        simp at z0 z1 z2
        have H3 := Lib.hid (I.out.next (((Fr.refl No wr).alloc _).alloc _ |>.next hf3 (fun _ _ f => f.elim)) (fun _ _ f => f.elim))
        clear hf3
        go_wp2_with fail
        go_roundw
        case rel => exact ⟨k + 1, by omega, by go_num, H3.out⟩
        case measure => simp [intOf]; omega
    · obtain rfl : k = row.length := by omega
      go_wp2_with fail
      go_ret
      exact ⟨rfl, I.out⟩
end Go.Proofs.YtlmhphejgahfbaaGreatDoor
