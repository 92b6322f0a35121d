/- Reference 9 (trie): Same. -/
import Derived.Test.YtlgmodeibmdcgaaDoorRef9e
set_option linter.unusedVariables false
set_option linter.unusedSimpArgs false
namespace Go.Proofs.YtlgmodeibmdcgaaDoor
open Go.RowKit

set_option maxHeartbeats 4000000 in
set_option maxRecDepth 100000 in
theorem ref_same {B C : Nat} {w : World} {A D : Option Addr} {c d : Nat} {xs ys : List Itm} (h : RdI B w A xs) (k : RdI C w D ys) :
    Calls Tryd.prog 17 #[.slice A xs.length c, .slice D ys.length d] w fun e w' => e = .returned (.bool (decide (xs = ys))) ∧ Fr No w w' := by
  have hx := h.1
  have hy := k.1
  by_cases hl : xs.length = ys.length
  · have H := Lib.hid (And.intro h k)
    clear h k
    go_enter Tryd.func17, Tryd.ntmps17
    go_wp2_with fail
    go_loopw [5] (fun i wr => ∃ k : Nat, k ≤ xs.length ∧ i = .int .i64 (k : Int) ∧ Hid (xs.take k = ys.take k ∧ Fr No w wr)) (fun i _ => xs.length - (intOf i).toNat)
    case atStart => exact ⟨0, Nat.zero_le _, rfl, by simp, Fr.refl _ _⟩
    case round =>
      obtain ⟨k, hk, rfl, I⟩ := hrel
      obtain ⟨ht, hf⟩ := I.out
      clear I
      have hk0 : (0 : Int) ≤ (k : Int) := Int.natCast_nonneg _
      by_cases hlt : k < xs.length
      · obtain ⟨a1, R1, c1, rfl, x0, x1, _, hx1⟩ := itm_at (H.out.1.fr0 hf) hlt
        obtain ⟨a2, R2, c2, rfl, y0, y1, _, hy1⟩ := itm_at (H.out.2.fr0 hf) (i := k) (by omega)
        have hk1 : (k : Int) < (xs.length : Int) := by omega
        have hk2 : (k : Int) < (ys.length : Int) := by omega
        have hk3 : k < ys.length := by omega
        have hnext : xs.take (k + 1) = ys.take (k + 1) ↔ xs[k] = ys[k] := by
          rw [List.take_succ_eq_append_getElem (l := xs) hlt, List.take_succ_eq_append_getElem (l := ys) hk3, ht]
          constructor
          · intro e
            have := List.append_cancel_left e
            injection this
          · intro e
            rw [e]
        have hno : xs[k] ≠ ys[k] → xs ≠ ys := fun h e => by subst e; exact h rfl
        have hby := fun (w1 : World) (f : Fr No wr w1) => ref_bytes_q (c := c1) (d := c2) (hx1.fr0 f) (hy1.fr0 f)
        have HN := Lib.hid (And.intro hnext (And.intro hno (And.intro hf hby)))
        clear hnext hno ht hf hx1 hy1 hby
        obtain ⟨u, hu⟩ : ∃ u, xs[k] = u := ⟨_, rfl⟩
        obtain ⟨v, hv⟩ : ∃ v, ys[k] = v := ⟨_, rfl⟩
        rw [hu] at x0 x1 HN
        rw [hv] at y0 y1 HN
        clear hu hv
        by_cases h1 : u.1 = v.1
        · rw [← h1] at y0
          obtain ⟨n1, hn1⟩ : ∃ n1, u.2.length = n1 := ⟨_, rfl⟩
          obtain ⟨n2, hn2⟩ : ∃ n2, v.2.length = n2 := ⟨_, rfl⟩
          rw [hn1] at x1 HN
          rw [hn2] at y1 HN
          have HE := Lib.hid h1
          obtain ⟨ku, hku⟩ : ∃ ku, u.1 = ku := ⟨_, rfl⟩
          rw [hku] at x0 y0
          by_cases h2 : u.2 = v.2
          · rw [decide_eq_true h2] at HN
            have HE2 := Lib.hid h2
            clear h1 h2 hn1 hn2 hku
            go_wp2_with fail
            go_quiet ((go_at_call 20; exact Calls.quiet_of ((HN.out.2.2.2 _ (by repeat (first | exact Fr.refl _ _ | apply Fr.drew | apply Fr.drewN))))))
            go_wp2_with fail
            go_roundw
            case rel => exact ⟨k + 1, by omega, by go_num, HN.out.1.2 (Prod.ext HE.out HE2.out), HN.out.2.2.1.next ((Fr.refl No wr).drewN _) (fun _ _ f => f.elim)⟩
            case measure => simp [intOf]; omega
          · rw [decide_eq_false h2] at HN
            have HE2 := Lib.hid (HN.out.2.1 fun e => h2 (by rw [e]))
            clear h1 h2 hn1 hn2 hku
            go_wp2_with fail
            go_quiet ((go_at_call 20; exact Calls.quiet_of ((HN.out.2.2.2 _ (by repeat (first | exact Fr.refl _ _ | apply Fr.drew | apply Fr.drewN))))))
            go_wp2_with fail
            go_ret
            exact ⟨by rw [decide_eq_false HE2.out]; rfl, HN.out.2.2.1.next ((Fr.refl No wr).drewN _) (fun _ _ f => f.elim)⟩
        · have hne : (u.1.toList == v.1.toList) = false := by rw [beq_toList]; exact decide_eq_false h1
          have HE := Lib.hid (HN.out.2.1 fun e => h1 (by rw [e]))
          obtain ⟨ku, hku⟩ : ∃ ku, u.1 = ku := ⟨_, rfl⟩
          obtain ⟨kv, hkv⟩ : ∃ kv, v.1 = kv := ⟨_, rfl⟩
          rw [hku] at x0 hne
          rw [hkv] at y0 hne
          clear h1 hku hkv
          go_wp2_with fail
          go_quiet (fail)
          go_wp2_with fail
          go_ret
          exact ⟨by rw [decide_eq_false HE.out]; rfl, HN.out.2.2.1.next ((Fr.refl No wr).drewN _) (fun _ _ f => f.elim)⟩
      · obtain rfl : k = xs.length := by omega
        have : xs = ys := by rw [List.take_length, hl, List.take_length] at ht; exact ht
        subst this
        have HF := Lib.hid hf
        clear ht hf
        go_wp2_with fail
        go_ret
        exact ⟨by simp, HF.out⟩
  · have hne : xs ≠ ys := fun e => hl (by rw [e])
    rw [decide_eq_false hne]
    have hl' : (xs.length : Int) ≠ (ys.length : Int) := fun e => hl (by omega)
    clear h k hne hl
    go_enter Tryd.func17, Tryd.ntmps17
    go_wp2_with fail
    go_ret
    exact ⟨rfl, Fr.refl _ _⟩
end Go.Proofs.YtlgmodeibmdcgaaDoor
