/- Reference 13 (store): Get, Last, Len, Scan. -/
import Derived.Test.YtkcppngopdiljaaRef13
set_option linter.unusedVariables false
set_option linter.unusedSimpArgs false
namespace Go.Proofs.Ytkcppngopdiljaa
open Go.RowKit

set_option maxRecDepth 100000 in
theorem ref_get {w : World} {F : Nat → Prop} {v : Value} {s : Sto} {m : Nat} (a : Int) (key : ByteArray) (h : StoVal w F v s) (hs : s.Fine m) (hm : m ≤ 100000000) :
    Calls Try.prog 50 #[v, .int .i64 a, .string key] w fun e w' => RowRd w' F e (s.get a key) ∧ Fr No w w' := by
  have hof := fun w' (f : Fr No w w') => ref_of key (h.fr0 f) (by have := hs.small.keys; omega) hs.rising
  have hcg := fun w' A cp (h' : Rd tVer w' F A (s.of key).l) => ref_cget (w := w') (cp := cp) a h' (hs.ok key).1 (by have := (hs.ok key).2.1; omega)
  obtain ⟨A, c, B, d, rfl, _⟩ := h
  have H := Lib.hid (And.intro hof hcg)
  clear hof hcg hs
  go_enter Try.func50, Try.ntmps50
  go_wp2_with (first
    | (go_at_call 61; refine (H.out.1 _ ((Fr.refl No w).alloc _)).mono ?_; rintro e w1 ⟨u, rfl, ⟨A1, c1, rfl, hc1, hr1⟩, hf1⟩; have H1 := Lib.hid (And.intro hr1 hf1); clear hr1 hf1 hc1)
    | (go_at_call 70; refine (H.out.2 _ _ _ H1.out.1).mono ?_; rintro e w2 ⟨⟨A2, c2, rfl, hc2, hr2⟩, hf2⟩; have H2 := Lib.hid (And.intro hc2 (And.intro hr2 hf2)); clear hc2 hr2 hf2))
  go_ret2
  exact ⟨⟨A2, c2, rfl, H2.out.1, H2.out.2.1⟩, (((Fr.refl No w).alloc _).trans (H1.out.2.mono fun _ _ f => f.elim)).trans (H2.out.2.2.mono fun _ _ f => f.elim)⟩

set_option maxRecDepth 100000 in
theorem ref_last {w : World} {F : Nat → Prop} {v : Value} {s : Sto} {m : Nat} (key : ByteArray) (h : StoVal w F v s) (hs : s.Fine m) (hm : m ≤ 100000000) :
    Calls Try.prog 43 #[v, .string key] w fun e w' => e = .returned (.int .i64 (s.last key)) ∧ Fr No w w' := by
  have hof := fun w' (f : Fr No w w') => ref_of key (h.fr0 f) (by have := hs.small.keys; omega) hs.rising
  obtain ⟨A, c, B, d, rfl, _⟩ := h
  have H := Lib.hid hof
  clear hof hs
  have hfd : ∀ (w : World) (A : Option Addr) (n c : Nat) (z : Int), Sem.run Try.prog (Instr.field 119 (.agg #[.slice A n c, .int .i64 z]) 1) w = .ok (.int .i64 z) w := fun _ _ _ _ _ => by kernel_rfl
  go_enter Try.func43, Try.ntmps43
  go_wp2_with (go_at_call 61; refine (H.out _ ((Fr.refl No w).alloc _)).mono ?_; rintro e w1 ⟨u, rfl, ⟨A1, c1, rfl, hc1, hr1⟩, hf1⟩; have H1 := Lib.hid hf1; clear hr1 hf1 hc1)
  go_ret
  exact ⟨rfl, ((Fr.refl No w).alloc _).trans (H1.out.mono fun _ _ f => f.elim)⟩

end Go.Proofs.Ytkcppngopdiljaa
