/- Layer 13 (store): Apply where it gives up; Apply of any batch. -/
import Derived.Test.YtkcppngopdiljaaStore6
set_option linter.unusedVariables false
set_option linter.unusedSimpArgs false
namespace Go.Proofs.Ytkcppngopdiljaa
open Go.RowKit

theorem store_apply_nil (v : Value) (n : Int) (A : Option Addr) (l c : Nat) (w : World) (hv : v = .agg #[.int .i64 n, .slice A l c]) : Calls Try.prog 38 #[.pointer none, v] w fun e w' => e = .returned (.int .i64 5) ∧ Fr No w w' := by
  subst hv
  go_enter Try.func38, Try.ntmps38
  go_wp2
  go_ret
  exact ⟨rfl, (Fr.refl No w).alloc _⟩

theorem store_apply_form {w : World} {sb : Nat} {R : Nat → Prop} {A : Option Addr} {c : Nat} {ws : List Wr} (n : Int) (hR : Rd tWr w R A ws) (hl : ws.length ≤ 1000000000) (hk : ∀ x ∈ ws, x.key.size ≤ 9223372036854775807) (hok : right n ws = false) :
    Calls Try.prog 38 #[.pointer (some ⟨sb, 0, none⟩), .agg #[.int .i64 n, .slice A ws.length c]] w fun e w' => e = .returned (.int .i64 2) ∧ Fr No w w' := by
  have hright := fun w' (f : Fr No w w') => right_ok (w := w') n A c ws (hR.fr0 f) hl hk
  rw [hok] at hright
  have H := Lib.hid hright
  clear hright hR hk hok
  go_enter Try.func38, Try.ntmps38
  go_wp2_with (go_at_call 57; refine (H.out _ ((Fr.refl No w).alloc _)).mono ?_; rintro e w1 ⟨rfl, hf1⟩)
  go_ret
  exact ⟨rfl, ((Fr.refl No w).alloc _).trans (hf1.mono fun _ _ f => f.elim)⟩

theorem store_apply_arg {w : World} {F : Nat → Prop} {sb : Nat} {s : Sto} {R : Nat → Prop} {A : Option Addr} {c : Nat} {ws : List Wr} (n : Int) (h : StoreAt w F sb s) (h0 : 0 ≤ s.now) (h1 : s.now ≤ 100000000) (hR : Rd tWr w R A ws) (hl : ws.length ≤ 1000000000) (hk : ∀ x ∈ ws, x.key.size ≤ 9223372036854775807) (hok : right n ws = true) (hn : n ≠ s.now + 1) :
    Calls Try.prog 38 #[.pointer (some ⟨sb, 0, none⟩), .agg #[.int .i64 n, .slice A ws.length c]] w fun e w' => e = .returned (.int .i64 1) ∧ Fr No w w' := by
  have hright := fun w' (f : Fr No w w') => right_ok (w := w') n A c ws (hR.fr0 f) hl hk
  rw [hok] at hright
  obtain ⟨_, mb, l, G, _, _, h4, _, _, _⟩ := h
  have cc : ∀ w', Fr No w w' → w'.heap[sb]? = some (.cells #[.map (some mb), .int .i64 s.now] 91 (0, 0)) := fun w' f => f.blk h4 (fun f => f)
  have H := Lib.hid (And.intro hright cc)
  clear hright hR hk hok h4 cc
  go_enter Try.func38, Try.ntmps38
  go_wp2_with (go_at_call 57; refine (H.out.1 _ ((Fr.refl No w).alloc _)).mono ?_; rintro e w1 ⟨rfl, hf1⟩
               have b1 := blk_cell (H.out.2 w1 (((Fr.refl No w).alloc _).trans (hf1.mono fun _ _ f => f.elim))) 1
               have e0 : w1.cell? ⟨w.heap.size, 0, none⟩ = some (.int .i64 n) := hf1.cell (by simp) (fun f => f)
               simp at b1
               have HF1 := Lib.hid hf1; clear hf1)
  go_quiet (fail)
  go_wp2
  go_ret
  exact ⟨rfl, (((Fr.refl No w).alloc _).trans (HF1.out.mono fun _ _ f => f.elim)).drewN _⟩

theorem store_apply {w : World} {F R : Nat → Prop} {sb : Nat} {s : Sto} {m : Nat} {A : Option Addr} {c : Nat} {ws : List Wr} (n : Int) (h : StoreAt w F sb s) (hs : s.Small m) (hm : m ≤ 100000000) (hR : Rd tWr w R A ws) (hd : ∀ i, R i → ¬ F i)
    (hl : ws.length ≤ 1000000000) (hk : ∀ x ∈ ws, x.key.size ≤ 9223372036854775807) :
    Calls Try.prog 38 #[.pointer (some ⟨sb, 0, none⟩), .agg #[.int .i64 n, .slice A ws.length c]] w fun e w' =>
      e = .returned (.int .i64 (s.apply n ws).2) ∧ StoreAt w' (fun i => F i ∨ w.heap.size ≤ i) sb (s.apply n ws).1 ∧ Fr F w w' := by
  unfold Sto.apply
  cases hok : right n ws with
  | false =>
    rw [if_pos rfl]
    refine (store_apply_form n hR hl hk hok).mono ?_
    rintro e w' ⟨rfl, hf⟩
    exact ⟨rfl, (h.fr0 hf).mono fun i hi _ => .inl hi, hf.mono fun _ _ f => f.elim⟩
  | true =>
    rw [if_neg (by simp)]
    by_cases hn : n = s.now + 1
    · subst hn
      rw [if_pos rfl]
      exact store_apply_ok h hs hm hR hd hok
    · rw [if_neg hn]
      refine (store_apply_arg n h hs.now0 (by have := hs.now1; omega) hR hl hk hok hn).mono ?_
      rintro e w' ⟨rfl, hf⟩
      exact ⟨rfl, (h.fr0 hf).mono fun i hi _ => .inl hi, hf.mono fun _ _ f => f.elim⟩
end Go.Proofs.Ytkcppngopdiljaa
