/- Reference 13 (store): Get, Last, Len, Scan. -/
import Derived.Test.YtehlfcdipoognaaRef13
set_option linter.unusedVariables false
set_option linter.unusedSimpArgs false
namespace Go.Proofs.Ytehlfcdipoognaa
open Go.RowKit

set_option maxRecDepth 100000 in
theorem ref_get {w : World} {F : Nat → Prop} {v : Value} {s : Sto} {m : Nat} (a : Int) (key : ByteArray) (h : StoVal w F v s) (hs : s.Fine m) (hm : m ≤ 100000000) :
    Calls Try.prog 30 #[v, .int .i64 a, .string key] w fun e w' => RowRd w' F e (s.get a key) ∧ Fr No w w' := by
  have hof := fun w' (f : Fr No w w') => ref_of key (h.fr0 f) (by have := hs.small.keys; omega) hs.rising
  have hcg := fun w' A cp (h' : Rd tVer w' F A (s.of key).l) => ref_cget (w := w') (cp := cp) a h' (hs.ok key).1 (by have := (hs.ok key).2.1; omega)
  obtain ⟨A, c, B, d, rfl, _⟩ := h
  have H := Lib.hid (And.intro hof hcg)
  clear hof hcg hs
  go_enter Try.func30, Try.ntmps30
  go_wp2_with (first
    | (go_at_call 36; refine (H.out.1 _ ((Fr.refl No w).alloc _)).mono ?_; rintro e w1 ⟨u, rfl, ⟨A1, c1, rfl, hc1, hr1⟩, hf1⟩; have H1 := Lib.hid (And.intro hr1 hf1); clear hr1 hf1 hc1)
    | (go_at_call 48; refine (H.out.2 _ _ _ H1.out.1).mono ?_; rintro e w2 ⟨⟨A2, c2, rfl, hc2, hr2⟩, hf2⟩; have H2 := Lib.hid (And.intro hc2 (And.intro hr2 hf2)); clear hc2 hr2 hf2))
  go_ret2
  exact ⟨⟨A2, c2, rfl, H2.out.1, H2.out.2.1⟩, (((Fr.refl No w).alloc _).trans (H1.out.2.mono fun _ _ f => f.elim)).trans (H2.out.2.2.mono fun _ _ f => f.elim)⟩

set_option maxRecDepth 100000 in
theorem ref_last {w : World} {F : Nat → Prop} {v : Value} {s : Sto} {m : Nat} (key : ByteArray) (h : StoVal w F v s) (hs : s.Fine m) (hm : m ≤ 100000000) :
    Calls Try.prog 40 #[v, .string key] w fun e w' => e = .returned (.int .i64 (s.last key)) ∧ Fr No w w' := by
  have hof := fun w' (f : Fr No w w') => ref_of key (h.fr0 f) (by have := hs.small.keys; omega) hs.rising
  obtain ⟨A, c, B, d, rfl, _⟩ := h
  have H := Lib.hid hof
  clear hof hs
  have hfd : ∀ (w : World) (A : Option Addr) (n c : Nat) (z : Int), Sem.run Try.prog (Instr.field 85 (.agg #[.slice A n c, .int .i64 z]) 1) w = .ok (.int .i64 z) w := fun _ _ _ _ _ => by kernel_rfl
  go_enter Try.func40, Try.ntmps40
  go_wp2_with (go_at_call 36; refine (H.out _ ((Fr.refl No w).alloc _)).mono ?_; rintro e w1 ⟨u, rfl, ⟨A1, c1, rfl, hc1, hr1⟩, hf1⟩; have H1 := Lib.hid hf1; clear hr1 hf1 hc1)
  go_ret
  exact ⟨rfl, ((Fr.refl No w).alloc _).trans (H1.out.mono fun _ _ f => f.elim)⟩

theorem ref_len {w : World} {F : Nat → Prop} {v : Value} {s : Sto} {m : Nat} (h : StoVal w F v s) (hs : s.Fine m) (hm : m ≤ 100000000) :
    Calls Try.prog 41 #[v] w fun e w' => e = .returned (.int .i64 s.len) ∧ Fr No w w' := by
  obtain ⟨A, c, B, d, rfl, h1, h2, h3, h4⟩ := h
  have hkl : (s.kc.length : Int) ≤ 100000000 := by have := hs.small.keys; omega
  have H := Lib.hid (And.intro h4 hs)
  clear h1 h2 h3 h4 hs
  obtain ⟨W, hW⟩ : ∃ W, W = w.alloc (.cells #[.slice A s.kc.length c, .slice B s.kc.length d, .int .i64 s.now] 29) := ⟨_, rfl⟩
  have hb : W.heap[w.heap.size]? = some (.cells #[.slice A s.kc.length c, .slice B s.kc.length d, .int .i64 s.now] 29 (0, 0)) := by rw [hW]; exact heap_alloc_new w _
  have hf : Fr No w W := by rw [hW]; exact (Fr.refl No w).alloc _
  have b1 := blk_cell hb 1
  simp at b1
  go_enter Try.func41, Try.ntmps41
  go_wp2
  rw [← hW]
  clear hb hW
  go_loopw [3, 4] (fun n i wr => ∃ k : Nat, k ≤ s.kc.length ∧ i = .int .i64 k ∧ n = .int .i64 ((((s.kc.map fun p => p.2.l.length).take k).sum : Nat) : Int) ∧ wr = W) (fun _ i _ => s.kc.length - (intOf i).toNat)
  case atStart => exact ⟨0, Nat.zero_le _, rfl, by simp, rfl⟩
  case round =>
    obtain ⟨k, hk, rfl, rfl, rfl⟩ := hrel
    by_cases hlt : k < s.kc.length
    · obtain ⟨ad, A', c', rfl, x0, _, _, _⟩ := chn_at (H.out.1.fr0 hf) (i := k) (by simpa using hlt)
      simp only [List.getElem_map] at x0
      have hq0 : (0 : Int) ≤ (k : Int) := Int.natCast_nonneg _
      have hq1 : (k : Int) < (s.kc.length : Int) := by omega
      have hstep := sum_take (l := s.kc.map fun p => p.2.l.length) (k := k) (by simpa using hlt)
      rw [List.getElem_map] at hstep
      have hsum : ((s.kc.map fun p => p.2.l.length).take (k + 1)).sum ≤ 10000000000000000 := by
        have := sum_le (s.kc.map fun p => p.2.l.length) 100000000 (fun x hx => by
          obtain ⟨p, hp, rfl⟩ := List.mem_map.1 hx
          have := (H.out.2.small.chains p hp).1
          omega)
        rw [List.length_map] at this
        have := sum_take_le (s.kc.map fun p => p.2.l.length) (k + 1)
        omega
      generalize hg : s.kc[k].2.l.length = n at *
      generalize hu : ((s.kc.map fun p => p.2.l.length).take k).sum = u at *
      rw [hstep] at hsum
      have hu0 : (0 : Int) ≤ (u : Int) := Int.natCast_nonneg _
      have hn0 : (0 : Int) ≤ (n : Int) := Int.natCast_nonneg _
      have hun : (u : Int) + (n : Int) ≤ 10000000000000000 := by omega
      have HS := Lib.hid hstep
      clear hstep hsum hg hu
      go_wp2
      go_roundw
      case rel => exact ⟨k + 1, by omega, by go_num, by rw [HS.out]; go_num, by first | rfl | trivial⟩
      case measure => simp [intOf]; omega
    · obtain rfl : k = s.kc.length := by omega
      go_wp2
      go_ret
      exact ⟨by rw [List.take_of_length_le (by simp)]; rfl, hf⟩
end Go.Proofs.Ytehlfcdipoognaa
