/- Texts and bytes: reading, appending, r01.Texts. -/
import Derived.Test.YtfaooohenicfbaaGreatDoorProg
import Derived.Test.YtfaooohenicfbaaGreatDoorSha3
import Derived.Test.YtfaooohenicfbaaGreatDoorLib
import Derived.Test.YtfaooohenicfbaaGreatDoorSpec01
import Derived.Deep.QuietTactic
import Derived.BigQuiet
import Derived.Deep.RegionHeld3
import Derived.Deep.RegionLaw
set_option linter.unusedVariables false
set_option linter.unusedSimpArgs false
namespace Go.Proofs.YtfaooohenicfbaaGreatDoor
open Go.RowKit


theorem info_u8 : (Tryz.prog.info? 5).map (fun i => (i.zero, i.size, i.bytes)) = some (some (.int .u8 0), 1, 1) := by kernel_rfl
theorem u8_at {w : World} {F : Nat → Prop} {A : Option Addr} {xs : Bs} (h : Rd Ty.u8 w F A xs) {i : Nat} (hi : i < xs.length) : ∃ ad, A = some ad ∧ w.cell? (ad.add i) = some (.int .u8 xs[i].toNat) := by
  obtain ⟨ad, c, e, hk, e0, _⟩ := h.get' hi (by decide)
  obtain rfl : c = _ := hk
  have := e0 _ rfl
  rw [show Ty.u8.sz = 1 from rfl, Nat.mul_one] at this
  exact ⟨ad, e, this⟩
/-- A text of bytes. -/
theorem run_str {w : World} {F : Nat → Prop} {A : Option Addr} {c n : Nat} {xs : Bs} (h : Rd Ty.u8 w F A xs) (hn : n = xs.length) : (convert 33 9 (.slice A n c)).run Tryz.prog w = .ok (.string ⟨xs.toArray⟩) w := by
  subst hn
  cases xs with
  | nil =>
    cases A with
    | none => exact run_convert_bytes_nil (w := w) 33 5 Tryz.underlying33 Tryz.underlying5 0 c 9 Tryz.underlying9
    | some a => exact run_convert_bytes_back w 33 9 5 a c [] Tryz.underlying33 Tryz.underlying5 Tryz.underlying9 (fun j hj => absurd hj (by simp))
  | cons x xs =>
    obtain ⟨a, rfl, _⟩ := u8_at h (i := 0) (by simp)
    refine run_convert_bytes_back w 33 9 5 a c (x :: xs) Tryz.underlying33 Tryz.underlying5 Tryz.underlying9 (fun j hj => ?_)
    obtain ⟨a', e, hc⟩ := u8_at h hj
    obtain rfl : a = a' := Option.some.inj e
    exact hc
theorem row_bytes {w : World} {F : Nat → Prop} : ∀ p : Bs, Row Ty.u8 w F p (p.map fun b => Value.int .u8 (b.toNat : Int))
  | [] => rfl
  | b :: p => ⟨[.int .u8 (b.toNat : Int)], _, rfl, rfl, row_bytes p⟩
theorem info_str : (Tryz.prog.info? 9).map (fun i => (i.zero, i.size, i.bytes)) = some (some (.string ⟨#[]⟩), 1, 16) := by kernel_rfl
/-- Texts of one's own. -/
theorem strs_snoc {N : Nat} {w W : World} {v : Value} {l : List ByteArray} {x : ByteArray} (h : Ow Ty.str 9 w (fun i => N ≤ i) v l) (hl : l.length ≤ 1000000) (hN : N ≤ w.heap.size) (hW : W = w.alloc (.cells #[.string x] 9)) :
    ∃ A1 c1 w1, (Builtin.append_ #[32, 32] 32 #[v, .slice (some ⟨w.heap.size, 0, none⟩) 1 1]).run Tryz.prog W = .ok (.slice A1 (l.length + 1) c1) w1 ∧ Ow Ty.str 9 w1 (fun i => N ≤ i) (.slice A1 (l.length + 1) c1) (l ++ [x]) ∧ Fr (fun i => N ≤ i) w w1 := by
  have hfW : Fr No w W := by rw [hW]; exact (Fr.refl No w).alloc _
  have hsz : W.heap.size = w.heap.size + 1 := by rw [hW]; simp
  have hA : At W (some ⟨w.heap.size, 0, none⟩) [.string x] := by rw [hW]; exact At.block (heap_alloc_new w _)
  have hrow : Row Ty.str W (fun i => N ≤ i ∧ v.ownBlock ≠ some i) [x] [.string x] := Row.single (t := Ty.str) rfl
  obtain ⟨A1, c1, w1, hrun, hO, hg, hat⟩ := run_ow_append (P := Tryz.prog) (ty := 32) (ty' := 32) Ty.str (h.fr0 hfW) (.string ⟨#[]⟩) 16 Tryz.underlying32 info_str rfl (by decide) (by decide) 1 (ys := [x]) hrow hA (by simp; omega)
  refine ⟨A1, c1, w1, hrun, hO.mono fun i hi _ => ?_, (hfW.mono fun _ _ f => f.elim).grown hg fun k hk => .inl (h.own hk).1⟩
  rcases hi with hi | hi <;> omega
theorem str_at {w : World} {F : Nat → Prop} {A : Option Addr} {l : List ByteArray} (h : Rd Ty.str w F A l) {i : Nat} (hi : i < l.length) : ∃ ad, A = some ad ∧ w.cell? (ad.add i) = some (.string l[i]) := by
  obtain ⟨ad, c, e, hk, e0, _⟩ := h.get' hi (by decide)
  obtain rfl : c = _ := hk
  have := e0 _ rfl
  rw [show Ty.str.sz = 1 from rfl, Nat.mul_one] at this
  exact ⟨ad, e, this⟩
set_option maxHeartbeats 2000000 in
set_option maxRecDepth 100000 in
theorem ref_texts {w : World} {F G : Nat → Prop} {A C : Option Addr} {c d : Nat} {xs ys : List ByteArray} (h : Rd Ty.str w F A xs) (k : Rd Ty.str w G C ys) :
    Calls Tryz.prog 39 #[.slice A xs.length c, .slice C ys.length d] w fun e w' => e = .returned (.bool (decide (xs = ys))) ∧ Fr No w w' := by
  have hx := h.1
  have hy := k.1
  by_cases hl : xs.length = ys.length
  · have H := Lib.hid (And.intro h k)
    clear h k
    go_enter Tryz.func39, Tryz.ntmps39
    go_wp2_with fail
    go_loopw [5] (fun i wr => ∃ k : Nat, k ≤ xs.length ∧ i = .int .i64 (k : Int) ∧ Hid (xs.take k = ys.take k ∧ Fr No w wr)) (fun i _ => xs.length - (intOf i).toNat)
    case atStart => exact ⟨0, Nat.zero_le _, rfl, by simp, Fr.refl _ _⟩
    case round =>
      obtain ⟨k, hk, rfl, I⟩ := hrel
      obtain ⟨ht, hf⟩ := I.out
      clear I
      have hk0 : (0 : Int) ≤ (k : Int) := Int.natCast_nonneg _
      by_cases hlt : k < xs.length
      · obtain ⟨a1, rfl, x0⟩ := str_at (H.out.1.fr0 hf) hlt
        obtain ⟨a2, rfl, y0⟩ := str_at (H.out.2.fr0 hf) (i := k) (by omega)
        have hk1 : (k : Int) < (xs.length : Int) := by omega
        have hk2 : (k : Int) < (ys.length : Int) := by omega
        have hk3 : k < ys.length := by omega
        have hnext : xs.take (k + 1) = ys.take (k + 1) ↔ xs[k] = ys[k] := by
          rw [List.take_succ_eq_append_getElem (l := xs) hlt, List.take_succ_eq_append_getElem (l := ys) hk3, ht]
          constructor
          · intro e
            have := List.append_cancel_left e
            injection this
          · intro e
            rw [e]
        have hno : xs[k] ≠ ys[k] → xs ≠ ys := fun h e => by subst e; exact h rfl
        have HN := Lib.hid (And.intro hnext (And.intro hno hf))
        clear hnext hno ht hf
        by_cases he : xs[k] = ys[k]
        · rw [← he] at y0
          have HE := Lib.hid he
          clear he
          generalize xs[k] = u at *
          go_wp2
          go_quiet (fail)
          go_wp2
          go_roundw
          case rel => exact ⟨k + 1, by omega, by go_num, HN.out.1.2 HE.out, HN.out.2.2.drewN _⟩
          case measure => simp [intOf]; omega
        · have hne : (xs[k].toList == ys[k].toList) = false := by rw [beq_toList]; exact decide_eq_false he
          have HE := Lib.hid (HN.out.2.1 he)
          clear he
          generalize xs[k] = u at *
          generalize ys[k] = v at *
          go_wp2
          go_quiet (fail)
          go_wp2
          go_ret
          exact ⟨by rw [decide_eq_false HE.out]; rfl, HN.out.2.2.drewN _⟩
      · obtain rfl : k = xs.length := by omega
        have : xs = ys := by rw [List.take_length, hl, List.take_length] at ht; exact ht
        subst this
        have HF := Lib.hid hf
        clear ht hf
        go_wp2
        go_ret
        exact ⟨by simp, HF.out⟩
  · have hne : xs ≠ ys := fun e => hl (by rw [e])
    rw [decide_eq_false hne]
    have hl' : (xs.length : Int) ≠ (ys.length : Int) := fun e => hl (by omega)
    clear h k hne hl
    go_enter Tryz.func39, Tryz.ntmps39
    go_wp2
    go_ret
    exact ⟨rfl, Fr.refl _ _⟩
end Go.Proofs.YtfaooohenicfbaaGreatDoor
