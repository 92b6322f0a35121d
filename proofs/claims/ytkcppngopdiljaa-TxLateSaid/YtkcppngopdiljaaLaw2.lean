/- Laws of layer 13 (store): lots, items. -/
import Derived.Test.YtkcppngopdiljaaRef13c
import Derived.Test.YtkcppngopdiljaaOpen
import Derived.Test.YtkcppngopdiljaaSpec06b
set_option linter.unusedVariables false
set_option linter.unusedSimpArgs false
namespace Go.Proofs.Ytkcppngopdiljaa
open Go.RowKit

theorem acts_at {α : Type} {t : Ty α} {w : World} {F : Nat → Prop} {A : Option Addr} {ls : List (List α)} (h : Rd (Ty.slice t) w F A ls) {i : Nat} (hi : i < ls.length) :
    ∃ ad A' c', A = some ad ∧ w.cell? (ad.add i) = some (.slice A' ls[i].length c') ∧ ls[i].length ≤ c' ∧ Rd t w F A' ls[i] := by
  obtain ⟨ad, cs, e, ⟨A', c', rfl, h1, h2⟩, e0, e1⟩ := h.get' hi (by show 0 < 1; omega)
  have := e0 _ rfl
  rw [show (Ty.slice t).sz = 1 from rfl, Nat.mul_one] at this
  exact ⟨ad, A', c', e, this, h1, h2⟩
def lotsB {α : Type} (ls : List (List α)) : Bool := (ls.all fun l => decide (l.length ≤ 10)) && decide (ls.length ≤ 20)

theorem law_lots {w : World} {F : Nat → Prop} {A : Option Addr} {c : Nat} {ls : List (List Actn)} (h : Rd (Ty.slice tAct) w F A ls) :
    Calls Try.prog 21 #[.slice A ls.length c] w fun e w' => e = .returned (.bool (lotsB ls)) ∧ Fr No w w' := by
  have H := Lib.hid h
  have hl := h.1
  clear h
  have hlI : (ls.length : Int) ≤ 9223372036854775807 := by omega
  go_enter Try.func21, Try.ntmps21
  go_wp2
  go_loopw [3] (fun i wr => ∃ k : Nat, k ≤ ls.length ∧ i = .int .i64 k ∧ Hid (((ls.take k).all fun l => decide (l.length ≤ 10)) = true) ∧ wr = w) (fun i _ => ls.length - (intOf i).toNat)
  case atStart => exact ⟨0, Nat.zero_le _, rfl, rfl, rfl⟩
  case round =>
    obtain ⟨k, hk, rfl, ha, rfl⟩ := hrel
    have hq0 : (0 : Int) ≤ (k : Int) := Int.natCast_nonneg _
    by_cases hlt : k < ls.length
    · obtain ⟨ad, A', c', rfl, x0, _, _⟩ := acts_at H.out hlt
      have hq1 : (k : Int) < (ls.length : Int) := by omega
      have hst : ((ls.take (k + 1)).all fun l => decide (l.length ≤ 10)) = decide (ls[k].length ≤ 10) := by
        rw [List.take_succ_eq_append_getElem hlt, List.all_append, ha.out]; simp
      have hno : ¬ ls[k].length ≤ 10 → lotsB ls = false := fun h10 => by
        unfold lotsB
        have : (ls.all fun l => decide (l.length ≤ 10)) = false := by
          rw [List.all_eq_false]
          exact ⟨ls[k], List.getElem_mem _, by simpa using h10⟩
        rw [this]; rfl
      have hin : (ls[k].length : Int) ≤ 9223372036854775807 := by
        obtain ⟨_, _, _, _, _, _, hr⟩ := acts_at H.out hlt
        have := hr.1
        omega
      have HS := Lib.hid (And.intro hst hno)
      clear hst hno
      generalize ls[k].length = n at *
      by_cases h10 : n ≤ 10
      · go_wp2
        go_roundw
        case rel => exact ⟨k + 1, by omega, by go_num, by show _ = _; rw [HS.out.1]; exact decide_eq_true h10, by first | rfl | trivial⟩
        case measure => simp [intOf]; omega
      · go_wp2
        go_ret
        exact ⟨by rw [HS.out.2 h10]; rfl, Fr.refl _ _⟩
    · obtain rfl : k = ls.length := by omega
      rw [List.take_length] at ha
      have hr : lotsB ls = decide ((ls.length : Int) ≤ 20) := by
        unfold lotsB
        rw [ha.out, Bool.true_and]
        simp only [decide_eq_decide]; omega
      have HR := Lib.hid hr
      clear hr
      go_wp2
      go_ret
      exact ⟨by rw [HR.out]; rfl, Fr.refl _ _⟩

theorem item_at {w : World} {F : Nat → Prop} {A : Option Addr} {l : List Item} (h : Rd tItem w F A l) {i : Nat} (hi : i < l.length) :
    ∃ ad A' c', A = some ad ∧ w.cell? (ad.add (i * 2)) = some (.string l[i].1) ∧ w.cell? ⟨(ad.add (i * 2)).block, (ad.add (i * 2)).off + 1, none⟩ = some (.slice A' l[i].2.length c') ∧ l[i].2.length ≤ c' ∧ Rd Ty.u8 w F A' l[i].2 := by
  obtain ⟨ad, cs, e, hk, e0, e1⟩ := h.get' hi (by decide)
  obtain ⟨A', c', rfl, h1, h2⟩ := tItem_open hk
  exact ⟨ad, A', c', e, e0 _ rfl, e1 1 _ (by decide) rfl, h1, h2⟩

set_option maxHeartbeats 2000000 in
set_option maxRecDepth 100000 in
theorem law_items {w : World} {F G : Nat → Prop} {A B : Option Addr} {c d : Nat} {l m : List Item} (h : Rd tItem w F A l) (k : Rd tItem w G B m) (hk : ∀ x ∈ l, x.1.size ≤ 9223372036854775807) :
    Calls Try.prog 28 #[.slice A l.length c, .slice B m.length d] w fun e w' => e = .returned (.bool (decide (l = m))) ∧ Fr No w w' := by
  have hx := h.1
  have hy := k.1
  by_cases hl : l.length = m.length
  · have H := Lib.hid (And.intro h k)
    clear h k hk
    go_enter Try.func28, Try.ntmps28
    go_wp2
    go_loopw [5] (fun i wr => ∃ k : Nat, k ≤ l.length ∧ i = .int .i64 k ∧ Hid (l.take k = m.take k) ∧ Hid (Fr No w wr)) (fun i _ => l.length - (intOf i).toNat)
    case atStart => exact ⟨0, Nat.zero_le _, rfl, by show _ = _; simp, Fr.refl _ _⟩
    case round =>
      obtain ⟨k, hk, rfl, ht, hf⟩ := hrel
      have hk0 : (0 : Int) ≤ (k : Int) := Int.natCast_nonneg _
      by_cases hlt : k < l.length
      · obtain ⟨a1, A1, c1, rfl, x0, x1, hc1, hr1⟩ := item_at (H.out.1.fr0 hf.out) hlt
        obtain ⟨a2, A2, c2, rfl, y0, y1, hc2, hr2⟩ := item_at (H.out.2.fr0 hf.out) (i := k) (by omega)
        have hk1 : (k : Int) < (l.length : Int) := by omega
        have hk2 : (k : Int) < (m.length : Int) := by omega
        have hk3 : k < m.length := by omega
        have hnext : l[k] = m[k] → l.take (k + 1) = m.take (k + 1) := fun e => by
          rw [List.take_succ_eq_append_getElem (l := l) hlt, List.take_succ_eq_append_getElem (l := m) hk3, ht.out, e]
        have hno : l[k] ≠ m[k] → l ≠ m := fun h e => by subst e; exact h rfl
        have hby := fun n => ref_bytes_q (w := wr.drewN n) (c := c1) (d := c2) (hr1.fr0 ((Fr.refl No wr).drewN n)) (hr2.fr0 ((Fr.refl No wr).drewN n))
        obtain ⟨p, hp⟩ : ∃ p, l[k] = p := ⟨_, rfl⟩
        obtain ⟨q, hq⟩ : ∃ q, m[k] = q := ⟨_, rfl⟩
        rw [hp] at x0 x1 hby hnext hno
        rw [hq] at y0 y1 hby hnext hno
        have HN := Lib.hid (And.intro hnext (And.intro hno hby))
        clear hnext hno ht hby hp hq hc1 hr1 hc2 hr2
        cases he : (p.1.toList == q.1.toList)
        · have hne : p ≠ q := fun e => by subst e; simp at he
          have HE := Lib.hid (HN.out.2.1 hne)
          clear hne
          go_wp2
          go_quiet (fail)
          go_wp2
          go_ret
          exact ⟨by rw [decide_eq_false HE.out]; rfl, hf.out.drewN _⟩
        · have hpq : p.1 = q.1 := by rw [beq_toList] at he; simpa using he
          cases hb : decide (p.2 = q.2)
          · have hne : p ≠ q := fun e => by subst e; simp at hb
            have hby := HN.out.2.2
            rw [hb] at hby
            have HBy := Lib.hid hby
            have HE := Lib.hid (HN.out.2.1 hne)
            clear hne hb hpq hby
            go_wp2
            go_quiet ((go_at_call 20; exact Calls.quiet_of (HBy.out _)))
            go_wp2
            go_ret
            exact ⟨by rw [decide_eq_false HE.out]; rfl, hf.out.drewN _⟩
          · have hpq2 : p = q := Prod.ext hpq (of_decide_eq_true hb)
            have hby := HN.out.2.2
            rw [hb] at hby
            have HBy := Lib.hid hby
            have HE := Lib.hid (HN.out.1 hpq2)
            clear hpq2 hb hpq hby
            go_wp2
            go_quiet ((go_at_call 20; exact Calls.quiet_of (HBy.out _)))
            go_wp2
            go_roundw
            case rel => exact ⟨k + 1, by omega, by go_num, HE.out, hf.out.drewN _⟩
            case measure => simp [intOf]; omega
      · obtain rfl : k = l.length := by omega
        have : l = m := by have := ht.out; rw [List.take_length, hl, List.take_length] at this; exact this
        subst this
        go_wp2
        go_ret
        exact ⟨by simp, hf.out⟩
  · have hne : l ≠ m := fun e => hl (by rw [e])
    rw [decide_eq_false hne]
    have hl' : (l.length : Int) ≠ (m.length : Int) := fun e => hl (by omega)
    clear h k hne hl hk
    go_enter Try.func28, Try.ntmps28
    go_wp2
    go_ret
    exact ⟨rfl, Fr.refl _ _⟩
end Go.Proofs.Ytkcppngopdiljaa
