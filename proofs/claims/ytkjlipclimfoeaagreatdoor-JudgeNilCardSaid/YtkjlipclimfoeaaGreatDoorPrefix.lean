/- judge.Prefix, the reference's Prefix. -/
import Derived.Test.YtkjlipclimfoeaaGreatDoorPre
set_option linter.unusedVariables false
set_option linter.unusedSimpArgs false
namespace Go.Proofs.YtkjlipclimfoeaaGreatDoor
open Go.RowKit

set_option maxHeartbeats 2000000 in
set_option maxRecDepth 100000 in
theorem equal_ok {w : World} {F G : Nat → Prop} {A C : Option Addr} {c d : Nat} {xs ys : List ByteArray} (h : Rd Ty.str w F A xs) (k : Rd Ty.str w G C ys) :
    Calls Tryz.prog 14 #[.slice A xs.length c, .slice C ys.length d] w fun e w' => e = .returned (.bool (decide (xs = ys))) ∧ Fr No w w' := by
  have hx := h.1
  have hy := k.1
  by_cases hl : xs.length = ys.length
  · have H := Lib.hid (And.intro h k)
    clear h k
    go_enter Tryz.func14, Tryz.ntmps14
    go_wp2_with fail
    go_loopw [13] (fun i wr => ∃ k : Nat, k ≤ xs.length ∧ i = .int .i64 (k : Int) ∧ Hid (xs.take k = ys.take k ∧ Fr No w wr)) (fun i _ => xs.length - (intOf i).toNat)
    case atStart => exact ⟨0, Nat.zero_le _, rfl, by simp, Fr.refl _ _⟩
    case round =>
      obtain ⟨k, hk, rfl, I⟩ := hrel
      obtain ⟨ht, hf⟩ := I.out
      clear I
      have hk0 : (0 : Int) ≤ (k : Int) := Int.natCast_nonneg _
      by_cases hlt : k < xs.length
      · obtain ⟨a1, rfl, x0⟩ := str_at (H.out.1.fr0 hf) hlt
        obtain ⟨a2, rfl, y0⟩ := str_at (H.out.2.fr0 hf) (i := k) (by omega)
        have hk1 : (k : Int) < (xs.length : Int) := by omega
        have hk2 : (k : Int) < (ys.length : Int) := by omega
        have hk3 : k < ys.length := by omega
        have hnext : xs.take (k + 1) = ys.take (k + 1) ↔ xs[k] = ys[k] := by
          rw [List.take_succ_eq_append_getElem (l := xs) hlt, List.take_succ_eq_append_getElem (l := ys) hk3, ht]
          constructor
          · intro e
            have := List.append_cancel_left e
            injection this
          · intro e
            rw [e]
        have hno : xs[k] ≠ ys[k] → xs ≠ ys := fun h e => by subst e; exact h rfl
        have HN := Lib.hid (And.intro hnext (And.intro hno hf))
        clear hnext hno ht hf
        by_cases he : xs[k] = ys[k]
        · rw [← he] at y0
          have HE := Lib.hid he
          clear he
          generalize xs[k] = u at *
          go_wp2
          go_quiet (fail)
          go_wp2
          go_roundw
          case rel => exact ⟨k + 1, by omega, by go_num, HN.out.1.2 HE.out, HN.out.2.2.drewN _⟩
          case measure => simp [intOf]; omega
        · have hne : (xs[k].toList == ys[k].toList) = false := by rw [beq_toList]; exact decide_eq_false he
          have HE := Lib.hid (HN.out.2.1 he)
          clear he
          generalize xs[k] = u at *
          generalize ys[k] = v at *
          go_wp2
          go_quiet (fail)
          go_wp2
          go_ret
          exact ⟨by rw [decide_eq_false HE.out]; rfl, HN.out.2.2.drewN _⟩
      · obtain rfl : k = xs.length := by omega
        have : xs = ys := by rw [List.take_length, hl, List.take_length] at ht; exact ht
        subst this
        have HF := Lib.hid hf
        clear ht hf
        go_wp2
        go_ret
        exact ⟨by simp, HF.out⟩
  · have hne : xs ≠ ys := fun e => hl (by rw [e])
    rw [decide_eq_false hne]
    have hl' : (xs.length : Int) ≠ (ys.length : Int) := fun e => hl (by omega)
    clear h k hne hl
    go_enter Tryz.func14, Tryz.ntmps14
    go_wp2
    go_ret
    exact ⟨rfl, Fr.refl _ _⟩

theorem info_strs : (Tryz.prog.info? 9).map (·.size) = some Ty.str.sz := by
  obtain ⟨i0, h1, h2⟩ := Option.map_eq_some_iff.1 info_str
  rw [h1]; simp only [Prod.mk.injEq] at h2; simp only [Option.map_some]; rw [h2.2.1]; rfl
/-- The cut of so many texts from a place on. -/
theorem cut_strs (A : Option Addr) (n c lo k : Nat) (h : lo + k ≤ n) (hc : n ≤ c) :
    ∃ A', (∀ W : World, (Instr.slice 24 (.slice A n c) (some (.int .i64 (lo : Int))) (some (.int .i64 ((lo : Int) + (k : Int)))) none).run Tryz.prog W = .ok (.slice A' k (c - lo)) W) ∧
      ∀ (w : World) (F : Nat → Prop) (xs : List ByteArray), xs.length = n → Rd Ty.str w F A xs → Rd Ty.str w F A' ((xs.take (lo + k)).drop lo) := by
  obtain ⟨A', h1, h2⟩ := cut_mid (P := Tryz.prog) Ty.str 24 9 .i64 .i64 Tryz.underlying24 info_strs A n c lo (lo + k) (Nat.le_add_right _ _) h hc
  refine ⟨A', fun W => ?_, h2⟩
  have := h1 W
  rwa [Int.natCast_add, Nat.add_sub_cancel_left] at this

set_option maxHeartbeats 2000000 in
set_option maxRecDepth 100000 in
theorem prefix_ok {w : World} {F G : Nat → Prop} {A C : Option Addr} {c d : Nat} {xs ys : List ByteArray} (h : Rd Ty.str w F A xs) (k : Rd Ty.str w G C ys) (hd : ys.length ≤ d) (hx : xs.length ≤ 1000) (hy : ys.length ≤ 1000) :
    Calls Tryz.prog 6 #[.slice A xs.length c, .slice C ys.length d] w fun e w' => ∃ b : Bool, e = .returned (.bool b) ∧ (b = true ↔ Pre xs ys) ∧ Fr No w w' := by
  have H := Lib.hid (And.intro h (And.intro k hd))
  have hxi : (xs.length : Int) ≤ 1000 := by omega
  have hyi : (ys.length : Int) ≤ 1000 := by omega
  have hx0 : (0 : Int) ≤ (xs.length : Int) := Int.natCast_nonneg _
  have hy0 : (0 : Int) ≤ (ys.length : Int) := Int.natCast_nonneg _
  clear h k hd hx hy
  go_enter Tryz.func6, Tryz.ntmps6
  go_wp2_with fail
  go_loopw [9] (fun iv wr => ∃ i : Nat, i ≤ ys.length + 1 ∧ iv = .int .i64 (i : Int) ∧ Hid ((∀ j, j < i → ¬ PreAt xs ys j) ∧ Fr No w wr)) (fun iv _ => ys.length + 1 - (intOf iv).toNat)
  case atStart => exact ⟨0, by omega, rfl, fun j hj => by omega, Fr.refl _ _⟩
  case round =>
    obtain ⟨i, hi, rfl, I⟩ := hrel
    have hi0 : (0 : Int) ≤ (i : Int) := Int.natCast_nonneg _
    obtain ⟨hno, hf⟩ := I.out
    by_cases hend : i ≤ ys.length
    · have hendi : (i : Int) < (ys.length : Int) + 1 := by omega
      by_cases hfit : i + xs.length ≤ ys.length
      · have hfiti : (i : Int) + (xs.length : Int) ≤ (ys.length : Int) := by omega
        obtain ⟨A', hcut, hrd⟩ := cut_strs C ys.length d i xs.length hfit H.out.2.2
        have hr := hrd _ _ ys rfl (H.out.2.1.fr0 hf)
        have hlen : ((ys.take (i + xs.length)).drop i).length = xs.length := by rw [List.length_drop, List.length_take]; omega
        have heq := fun (w1 : World) (f : Fr No wr w1) => equal_ok (c := c) (d := d - i) ((H.out.1.fr0 hf).fr0 f) (hr.fr0 f)
        rw [hlen] at heq
        have hiff : PreAt xs ys i ↔ xs = (ys.take (i + xs.length)).drop i := ⟨fun h => h.2.symm, fun h => ⟨hfit, h.symm⟩⟩
        have HS := Lib.hid (And.intro heq (And.intro hiff (And.intro hno hf)))
        clear heq hiff hno hf I hrd hr hlen hfit
        by_cases he : xs = (ys.take (i + xs.length)).drop i
        · rw [decide_eq_true he] at HS
          have HE := Lib.hid (HS.out.2.1.2 he)
          clear he
          go_wp2_with fail
          refine (HS.out.1 _ (Fr.refl _ _)).mono ?_
          rintro e w1 ⟨rfl, hf1⟩
          have H1 := Lib.hid hf1
          clear hf1
          go_wp2_with fail
          go_ret
          exact ⟨true, rfl, ⟨fun _ => ⟨i, HE.out⟩, fun _ => rfl⟩, HS.out.2.2.2.next H1.out (fun _ _ f => f.elim)⟩
        · rw [decide_eq_false he] at HS
          have hne : ¬ PreAt xs ys i := fun h => he (HS.out.2.1.1 h)
          have HN := Lib.hid hne
          clear he hne
          go_wp2_with fail
          refine (HS.out.1 _ (Fr.refl _ _)).mono ?_
          rintro e w1 ⟨rfl, hf1⟩
          have H1 := Lib.hid hf1
          clear hf1
          go_wp2_with fail
          go_roundw
          case rel => exact ⟨i + 1, by omega, by go_num, (fun j hj => by
            by_cases hji : j = i
            · subst hji; exact HN.out
            · exact HS.out.2.2.1 j (by omega)), HS.out.2.2.2.next H1.out (fun _ _ f => f.elim)⟩
          case measure => simp [intOf]; omega
      · have hfiti : ¬ (i : Int) + (xs.length : Int) ≤ (ys.length : Int) := by omega
        clear hno hf
        go_wp2_with fail
        go_roundw
        case rel => exact ⟨i + 1, by omega, by go_num, (fun j hj => by
            by_cases hji : j = i
            · subst hji; exact fun h => hfit h.1
            · exact I.out.1 j (by omega)), I.out.2⟩
        case measure => simp [intOf]; omega
    · obtain rfl : i = ys.length + 1 := by omega
      clear hno hf
      have hall : ¬ Pre xs ys := pre_none fun j hj => I.out.1 j (by omega)
      have HN := Lib.hid hall
      have hx1 : (xs.length : Int) ≠ 0 := fun e => hall (by
        have : xs = [] := List.eq_nil_of_length_eq_zero (by omega)
        rw [this]; exact Pre.nil _)
      have hx2 : ((xs.length : Int) == 0) = false := beq_eq_false_iff_ne.2 hx1
      clear hall
      go_wp2_with fail
      go_ret
      exact ⟨false, rfl, ⟨(fun h => by cases h), fun h => absurd h HN.out⟩, I.out.2⟩

set_option maxHeartbeats 2000000 in
set_option maxRecDepth 100000 in
theorem ref_prefix {w : World} {F G : Nat → Prop} {A C : Option Addr} {c d : Nat} {xs ys : List ByteArray} (h : Rd Ty.str w F A xs) (k : Rd Ty.str w G C ys) (hd : ys.length ≤ d) (hx : xs.length ≤ 1000) (hy : ys.length ≤ 1000) :
    Calls Tryz.prog 7 #[.slice A xs.length c, .slice C ys.length d] w fun e w' => ∃ b : Bool, e = .returned (.bool b) ∧ (b = true ↔ Pre xs ys) ∧ Fr No w w' := by
  have H := Lib.hid (And.intro h (And.intro k hd))
  have hxi : (xs.length : Int) ≤ 1000 := by omega
  have hyi : (ys.length : Int) ≤ 1000 := by omega
  have hx0 : (0 : Int) ≤ (xs.length : Int) := Int.natCast_nonneg _
  have hy0 : (0 : Int) ≤ (ys.length : Int) := Int.natCast_nonneg _
  clear h k hd hx hy
  go_enter Tryz.func7, Tryz.ntmps7
  go_wp2_with fail
  go_loopw [5] (fun iv wr => ∃ i : Nat, i ≤ ys.length + 1 ∧ iv = .int .i64 (i : Int) ∧ Hid ((∀ j, j < i → ¬ PreAt xs ys j) ∧ Fr No w wr)) (fun iv _ => ys.length + 1 - (intOf iv).toNat)
  case atStart => exact ⟨0, by omega, rfl, fun j hj => by omega, Fr.refl _ _⟩
  case round =>
    obtain ⟨i, hi, rfl, I⟩ := hrel
    have hi0 : (0 : Int) ≤ (i : Int) := Int.natCast_nonneg _
    obtain ⟨hno, hf⟩ := I.out
    by_cases hfit : i + xs.length ≤ ys.length
    · have hfiti : (i : Int) + (xs.length : Int) ≤ (ys.length : Int) := by omega
      obtain ⟨A', hcut, hrd⟩ := cut_strs C ys.length d i xs.length hfit H.out.2.2
      have hr := hrd _ _ ys rfl (H.out.2.1.fr0 hf)
      have hlen : ((ys.take (i + xs.length)).drop i).length = xs.length := by rw [List.length_drop, List.length_take]; omega
      have heq := fun (w1 : World) (f : Fr No wr w1) => ref_texts (c := c) (d := d - i) ((H.out.1.fr0 hf).fr0 f) (hr.fr0 f)
      rw [hlen] at heq
      have hiff : PreAt xs ys i ↔ xs = (ys.take (i + xs.length)).drop i := ⟨fun h => h.2.symm, fun h => ⟨hfit, h.symm⟩⟩
      have HS := Lib.hid (And.intro heq (And.intro hiff (And.intro hno hf)))
      clear heq hiff hno hf I hrd hr hlen hfit
      by_cases he : xs = (ys.take (i + xs.length)).drop i
      · rw [decide_eq_true he] at HS
        have HE := Lib.hid (HS.out.2.1.2 he)
        clear he
        go_wp2_with fail
        refine (HS.out.1 _ (Fr.refl _ _)).mono ?_
        rintro e w1 ⟨rfl, hf1⟩
        have H1 := Lib.hid hf1
        clear hf1
        go_wp2_with fail
        go_ret
        exact ⟨true, rfl, ⟨fun _ => ⟨i, HE.out⟩, fun _ => rfl⟩, HS.out.2.2.2.next H1.out (fun _ _ f => f.elim)⟩
      · rw [decide_eq_false he] at HS
        have hne : ¬ PreAt xs ys i := fun h => he (HS.out.2.1.1 h)
        have HN := Lib.hid hne
        clear he hne
        go_wp2_with fail
        refine (HS.out.1 _ (Fr.refl _ _)).mono ?_
        rintro e w1 ⟨rfl, hf1⟩
        have H1 := Lib.hid hf1
        clear hf1
        go_wp2_with fail
        go_roundw
        case rel => exact ⟨i + 1, by omega, by go_num, (fun j hj => by
          by_cases hji : j = i
          · subst hji; exact HN.out
          · exact HS.out.2.2.1 j (by omega)), HS.out.2.2.2.next H1.out (fun _ _ f => f.elim)⟩
        case measure => simp [intOf]; omega
    · have hfiti : ¬ (i : Int) + (xs.length : Int) ≤ (ys.length : Int) := by omega
      clear hno hf
      have hall : ¬ Pre xs ys := fun ⟨j, hj⟩ => by
        by_cases hji : j < i
        · exact I.out.1 j hji hj
        · have := hj.1; omega
      have HN := Lib.hid hall
      have hx1 : (xs.length : Int) ≠ 0 := fun e => hall (by
        have : xs = [] := List.eq_nil_of_length_eq_zero (by omega)
        rw [this]; exact Pre.nil _)
      have hx2 : ((xs.length : Int) == 0) = false := beq_eq_false_iff_ne.2 hx1
      clear hall
      go_wp2_with fail
      go_ret
      first
        | exact .inl ⟨rfl, HN.out, I.out.2⟩
        | exact ⟨false, rfl, ⟨(fun h => by cases h), fun h => absurd h HN.out⟩, I.out.2⟩
end Go.Proofs.YtkjlipclimfoeaaGreatDoor
