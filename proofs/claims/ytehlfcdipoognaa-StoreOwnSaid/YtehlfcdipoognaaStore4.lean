/- Layer 13 (store): Len and Trim. -/
import Derived.Test.YtehlfcdipoognaaStore3
set_option linter.unusedVariables false
set_option linter.unusedSimpArgs false
namespace Go.Proofs.Ytehlfcdipoognaa
open Go.RowKit

theorem sum_le (l : List Nat) (c : Nat) (h : ∀ x ∈ l, x ≤ c) : l.sum ≤ l.length * c := by
  induction l with
  | nil => simp
  | cons x l ih =>
    have h1 := h x (List.mem_cons_self ..)
    have h2 := ih fun y hy => h y (List.mem_cons_of_mem _ hy)
    rw [List.sum_cons, List.length_cons, Nat.add_mul]
    omega
theorem sum_take {l : List Nat} {k : Nat} (hk : k < l.length) : (l.take (k + 1)).sum = (l.take k).sum + l[k] := by
  rw [List.take_succ_eq_append_getElem hk, List.sum_append]; simp
theorem sum_take_le (l : List Nat) (k : Nat) : (l.take k).sum ≤ l.sum := by
  conv => rhs; rw [← List.take_append_drop k l, List.sum_append]
  omega

set_option maxHeartbeats 1000000 in
theorem store_len {w : World} {F : Nat → Prop} {sb : Nat} {s : Sto} {m : Nat} (h : StoreAt w F sb s) (hs : s.Small m) (hm : m ≤ 100000000) :
    Calls Try.prog 27 #[.pointer (some ⟨sb, 0, none⟩)] w fun e w' => e = .returned (.int .i64 s.len) ∧ Fr No w w' := by
  have hk := store_keys h hs hm
  have hkl : (s.kc.length : Int) ≤ 100000000 := by have := hs.keys; omega
  have hsum : s.len ≤ 10000000000000000 := by
    have := sum_le (s.kc.map fun p => p.2.l.length) 100000000 (fun x hx => by
      obtain ⟨p, hp, rfl⟩ := List.mem_map.1 hx
      have := (hs.chains p hp).1; omega)
    rw [List.length_map] at this
    unfold Sto.len; omega
  have HH := Lib.hid (And.intro hk (And.intro h (And.intro hs hm)))
  clear hk h hs hm
  go_enter Try.func27, Try.ntmps27
  go_wp2_with (go_at_call 29; refine HH.out.1.mono ?_; rintro e w1 ⟨A, c, rfl, hr, hc, hf1⟩; have HR := Lib.hid (And.intro hr hf1); clear hr hf1)
  go_loop [3, 9] (fun v i => ∃ (k n : Nat), k ≤ s.kc.length ∧ v = .int .i64 n ∧ i = .int .i64 k ∧ Hid (n = ((s.kc.map fun p => p.2.l.length).take k).sum)) (fun _ i => s.kc.length - (intOf i).toNat)
  case atStart => exact ⟨0, 0, Nat.zero_le _, rfl, rfl, by show _ = _; simp⟩
  case round =>
    obtain ⟨k, n, hk, rfl, rfl, I⟩ := hrel
    by_cases hlt : k < s.kc.length
    · obtain ⟨ad, rfl, x0⟩ := str_at HR.out.1 (i := k) (by simpa using hlt)
      obtain ⟨h1, mb, l, G, h2, h3, h4, h5, h6, h7⟩ := HH.out.2.1.fr0 HR.out.2
      have c0 := blk_cell h4 0
      have hm := List.getElem_mem hlt
      have hlk := look_of_mem h6.rising.nodup (show (s.kc[k].1, s.kc[k].2) ∈ s.kc from hm)
      obtain ⟨v, hv⟩ : ∃ v, look s.kc[k].1 l = some v := by
        cases hl : look s.kc[k].1 l with
        | none => rw [(h6.keys _).1 hl] at hlk; cases hlk
        | some v => exact ⟨v, rfl⟩
      obtain ⟨b, rfl, hb⟩ := h6.at_ _ _ _ hv hlk
      have hrun := (run_map_look (P := Try.prog) h5 77 _ _ Try.underlying77 Try.underlying9 _ (zero_chain w1) s.kc[k].1).1
      rw [hv, Option.getD_some] at hrun
      have hlen := chain_len hb
      have hst := sum_take (l := s.kc.map fun p => p.2.l.length) (k := k) (by simpa using hlt)
      rw [List.getElem_map] at hst x0
      have hle := sum_take_le (s.kc.map fun p => p.2.l.length) (k + 1)
      rw [hst] at hle
      have hnb : (n : Int) + (s.kc[k].2.l.length : Int) ≤ 10000000000000000 := by
        have e := I.out
        have : n + s.kc[k].2.l.length ≤ s.len := by rw [e]; exact hle
        omega
      have HL := Lib.hid (And.intro hlen hst)
      clear h1 h2 h3 h4 h5 h6 h7 hm hlk hv hb hlen hst hle
      simp at c0
      generalize hky : s.kc[k].1 = ky at *
      generalize hln : s.kc[k].2.l.length = ln at *
      clear hky hln
      have hk0 : (0 : Int) ≤ (k : Int) := Int.natCast_nonneg _
      have hk1 : (k : Int) < (s.kc.length : Int) := by omega
      have hn0 : (0 : Int) ≤ (n : Int) := Int.natCast_nonneg _
      have hl0 : (0 : Int) ≤ (ln : Int) := Int.natCast_nonneg _
      go_wp2_with (go_at_call 44; refine HL.out.1.mono ?_; rintro e w' ⟨rfl, rfl⟩)
      go_round
      case rel => exact ⟨k + 1, n + ln, by omega, by go_num, by go_num, by show _ = _; rw [HL.out.2, ← I.out]⟩
      case measure => simp [intOf]; omega
    · obtain rfl : k = s.kc.length := by omega
      have e : n = s.len := by
        have e := I.out
        have h2 : (s.kc.map fun p => p.2.l.length).take s.kc.length = s.kc.map fun p => p.2.l.length := List.take_of_length_le (by simp)
        rw [h2] at e
        exact e
      have E := Lib.hid e
      clear e
      go_wp2
      go_ret
      exact ⟨by rw [← E.out]; rfl, HR.out.2⟩
theorem store_len_nil (w : World) : Calls Try.prog 27 #[.pointer none] w fun e w' => e = .returned (.int .i64 0) ∧ w' = w := by
  go_enter Try.func27, Try.ntmps27
  go_wp2_with (go_at_call 29; refine (store_keys_nil _).mono ?_; rintro e w1 ⟨rfl, rfl⟩)
  refine wp_loop_rounds 1 ?_; rw [rounds_succ]
  go_wp2
  go_ret
  exact ⟨rfl, rfl⟩
end Go.Proofs.Ytehlfcdipoognaa
