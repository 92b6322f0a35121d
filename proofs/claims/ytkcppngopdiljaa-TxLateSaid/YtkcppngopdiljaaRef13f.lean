/- Reference 13 (store): Apply in every case. -/
import Derived.Test.YtkcppngopdiljaaRef13e
import Derived.Test.YtkcppngopdiljaaSpec06b
set_option linter.unusedVariables false
set_option linter.unusedSimpArgs false
namespace Go.Proofs.Ytkcppngopdiljaa
open Go.RowKit

/-- The store as it was, laid into the result's box. -/
theorem rbox_same {w wr : World} {A B D : Option Addr} {c d e : Nat} {s : Sto} {n : Int} {ws : List Wr} {F : Nat → Prop} (hB : RBox w wr A B D c d e s n ws) (h1 : s.kc.length ≤ c) (h2 : s.kc.length ≤ d) (h3 : Rd Ty.str w F A (s.kc.map Prod.fst)) (h4 : Rd tChn w F B (s.kc.map Prod.snd)) :
    let w' := ((wr.setCell ⟨w.heap.size + 2, 0, none⟩ (.slice A s.kc.length c)).setCell ⟨w.heap.size + 2, 1, none⟩ (.slice B s.kc.length d)).setCell ⟨w.heap.size + 2, 2, none⟩ (.int .i64 s.now)
    w'.cell? ⟨w.heap.size + 2, 0, none⟩ = some (.slice A s.kc.length c) ∧ w'.cell? ⟨w.heap.size + 2, 1, none⟩ = some (.slice B s.kc.length d) ∧ w'.cell? ⟨w.heap.size + 2, 2, none⟩ = some (.int .i64 s.now) ∧
      StoVal w' (fun i => F i ∨ w.heap.size ≤ i) (.agg #[.slice A s.kc.length c, .slice B s.kc.length d, .int .i64 s.now]) s ∧ Fr No w w' := by
  have hb4 := blk_set (blk_set (blk_set hB.b2 0 (.slice A s.kc.length c)) 1 (.slice B s.kc.length d)) 2 (.int .i64 s.now)
  have d0 := blk_cell hb4 0
  have d1 := blk_cell hb4 1
  have d2 := blk_cell hb4 2
  simp at d0 d1 d2
  have hfr : Fr No w (((wr.setCell ⟨w.heap.size + 2, 0, none⟩ (.slice A s.kc.length c)).setCell ⟨w.heap.size + 2, 1, none⟩ (.slice B s.kc.length d)).setCell ⟨w.heap.size + 2, 2, none⟩ (.int .i64 s.now)) := ((hB.fr.set _ (.inr (by simp)) _).set _ (.inr (by simp)) _).set _ (.inr (by simp)) _
  exact ⟨d0, d1, d2, ⟨A, c, B, d, rfl, h1, h2, (h3.fr0 hfr).mono fun i hi _ => .inl hi, (h4.fr0 hfr).mono fun i hi _ => .inl hi⟩, hfr⟩

set_option maxHeartbeats 1000000 in
set_option maxRecDepth 100000 in
theorem ref_apply {w : World} {F R : Nat → Prop} {v : Value} {s : Sto} {m : Nat} {D : Option Addr} {e : Nat} {ws : List Wr} (n : Int) (h : StoVal w F v s) (hs : s.Fine m) (hm : m ≤ 100000000) (hR : Rd tWr w R D ws) (hl : ws.length ≤ 1000000000) (hk : ∀ x ∈ ws, x.key.size ≤ 9223372036854775807) :
    Calls Try.prog 39 #[v, .agg #[.int .i64 n, .slice D ws.length e]] w fun e w' => ∃ u, e = .returned (.tuple #[u, .int .i64 (s.apply n ws).2]) ∧ StoVal w' (fun i => F i ∨ w.heap.size ≤ i) u (s.apply n ws).1 ∧ Fr No w w' := by
  cases hok : right n ws with
  | false =>
    have hap : s.apply n ws = (s, 2) := by unfold Sto.apply; rw [hok]; exact if_pos rfl
    rw [hap]
    obtain ⟨A, c, B, d, rfl, h1, h2, h3, h4⟩ := h
    have hright := fun w' (f : Fr No w w') => ref_right (w := w') n D e ws (hR.fr0 f) hl hk
    rw [hok] at hright
    obtain ⟨W, hW⟩ : ∃ W, W = ((w.alloc (.cells #[.slice A s.kc.length c, .slice B s.kc.length d, .int .i64 s.now] 55)).alloc (.cells #[.int .i64 n, .slice D ws.length e] 40)).alloc (.cells #[.slice none 0 0, .slice none 0 0, .int .i64 0] 55) := ⟨_, rfl⟩
    have hB : RBox w W A B D c d e s n ws := ⟨by rw [hW]; exact blk_three1 .., by rw [hW]; exact blk_three2 .., by rw [hW]; exact blk_three3 .., by rw [hW]; exact (((Fr.refl No w).alloc _).alloc _).alloc _⟩
    have H := Lib.hid (And.intro h1 (And.intro h2 (And.intro h3 (And.intro h4 (And.intro (hright W hB.fr) hB)))))
    clear h1 h2 h3 h4 hs hR hright hB hok hk hap
    go_enter Try.func39, Try.ntmps39
    go_wp2_with fail
    rw [← hW]
    clear hW
    refine H.out.2.2.2.2.1.mono ?_
    rintro e1 w1 ⟨rfl, hf1⟩
    have hB1 := H.out.2.2.2.2.2.fr0 hf1
    have a0 := blk_cell hB1.b0 0
    have a1 := blk_cell hB1.b0 1
    have a2 := blk_cell hB1.b0 2
    have b0 := blk_cell hB1.b2 0
    have b1 := blk_cell hB1.b2 1
    have b2 := blk_cell hB1.b2 2
    have z0 := blk_frozen hB1.b2 0
    have z1 := blk_frozen hB1.b2 1
    have z2 := blk_frozen hB1.b2 2
    simp at a0 a1 a2 b0 b1 b2
    have HE := Lib.hid (rbox_same hB1 H.out.1 H.out.2.1 H.out.2.2.1 H.out.2.2.2.1)
    clear hB1 hf1
    go_wp2
    obtain ⟨d0, d1, d2, hv, hfr⟩ := HE.out
    exact bodyPost_ret (v := .tuple #[.agg #[.slice A s.kc.length c, .slice B s.kc.length d, .int .i64 s.now], .int .i64 2]) (by simp [results, Try.results39, go_sem, d0, d1, d2]) rfl ⟨_, rfl, hv, hfr⟩
  | true =>
    by_cases hn : n = s.now + 1
    · subst hn
      have hap : s.apply (s.now + 1) ws = (⟨ws.foldl (Sto.put1 (s.now + 1)) s.kc, s.now + 1⟩, 0) := by unfold Sto.apply; rw [hok]; simp
      rw [hap]
      exact ref_apply_ok h hs hm hR hok
    · have hap : s.apply n ws = (s, 1) := by unfold Sto.apply; rw [hok]; simp [hn]
      rw [hap]
      have hn0 := hs.small.now0
      have hn1 : s.now ≤ 100000000 := by have := hs.small.now1; omega
      obtain ⟨A, c, B, d, rfl, h1, h2, h3, h4⟩ := h
      have hright := fun w' (f : Fr No w w') => ref_right (w := w') n D e ws (hR.fr0 f) hl hk
      rw [hok] at hright
      obtain ⟨W, hW⟩ : ∃ W, W = ((w.alloc (.cells #[.slice A s.kc.length c, .slice B s.kc.length d, .int .i64 s.now] 55)).alloc (.cells #[.int .i64 n, .slice D ws.length e] 40)).alloc (.cells #[.slice none 0 0, .slice none 0 0, .int .i64 0] 55) := ⟨_, rfl⟩
      have hB : RBox w W A B D c d e s n ws := ⟨by rw [hW]; exact blk_three1 .., by rw [hW]; exact blk_three2 .., by rw [hW]; exact blk_three3 .., by rw [hW]; exact (((Fr.refl No w).alloc _).alloc _).alloc _⟩
      have H := Lib.hid (And.intro h1 (And.intro h2 (And.intro h3 (And.intro h4 (And.intro (hright W hB.fr) hB)))))
      clear h1 h2 h3 h4 hs hR hright hB hok hk hap
      go_enter Try.func39, Try.ntmps39
      go_wp2_with fail
      rw [← hW]
      clear hW
      refine H.out.2.2.2.2.1.mono ?_
      rintro e1 w1 ⟨rfl, hf1⟩
      have hB1 := H.out.2.2.2.2.2.fr0 hf1
      have a0 := blk_cell hB1.b0 0
      have a1 := blk_cell hB1.b0 1
      have a2 := blk_cell hB1.b0 2
      have a3 := blk_cell hB1.b1 0
      have b0 := blk_cell hB1.b2 0
      have b1 := blk_cell hB1.b2 1
      have b2 := blk_cell hB1.b2 2
      have z0 := blk_frozen hB1.b2 0
      have z1 := blk_frozen hB1.b2 1
      have z2 := blk_frozen hB1.b2 2
      simp at a0 a1 a2 a3 b0 b1 b2
      have HE := Lib.hid (rbox_same hB1 H.out.1 H.out.2.1 H.out.2.2.1 H.out.2.2.2.1)
      clear hB1 hf1
      go_wp2
      obtain ⟨d0, d1, d2, hv, hfr⟩ := HE.out
      exact bodyPost_ret (v := .tuple #[.agg #[.slice A s.kc.length c, .slice B s.kc.length d, .int .i64 s.now], .int .i64 1]) (by simp [results, Try.results39, go_sem, d0, d1, d2]) rfl ⟨_, rfl, hv, hfr⟩

/-- A store stays fine. -/
theorem Sto.Fine.mono {s : Sto} {m m' : Nat} (h : s.Fine m) (k : m ≤ m') : s.Fine m' := ⟨h.small.mono k, h.rising, h.oks⟩
theorem Sto.Fine.applied {s : Sto} {m : Nat} (h : s.Fine m) (n : Int) (ws : List Wr) : (s.apply n ws).1.Fine (m + 64) := by
  unfold Sto.apply
  cases hok : right n ws with
  | false => exact h.mono (by omega)
  | true =>
    by_cases hn : n = s.now + 1
    · subst hn
      rw [if_neg (by simp), if_pos rfl]
      have hfit : allFit ⟨#[]⟩ ws = true := by
        unfold right at hok
        simp only [Bool.and_eq_true] at hok
        exact hok.1
      exact ⟨h.small.applied h.rising hok, fold_rising h.rising ws, fold_oks h.rising h.oks (fun p hp => by have := (h.small.chains p hp).2.1; omega) (by have := h.small.now0; omega) (allFit_rising hfit).1.nodup⟩
    · rw [if_neg (by simp), if_neg hn]
      exact h.mono (by omega)
end Go.Proofs.Ytkcppngopdiljaa
