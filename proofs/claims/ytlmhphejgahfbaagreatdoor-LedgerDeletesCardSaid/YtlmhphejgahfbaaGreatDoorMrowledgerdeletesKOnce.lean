/- Layer 15 (ledger): the document's example. -/
import Derived.Test.YtlmhphejgahfbaaGreatDoorMrowledgerdeletes20
import Derived.Test.YtlmhphejgahfbaaGreatDoorMrowledgerdeletes23
import Derived.Test.YtlmhphejgahfbaaGreatDoorMrowledgerdeletes29
import Derived.Test.YtlmhphejgahfbaaGreatDoorMrowledgerdeletes29
import Derived.Test.YtlmhphejgahfbaaGreatDoorMrowledgerdeletes32
import Derived.Test.YtlmhphejgahfbaaGreatDoorMrowledgerdeletes10
set_option linter.unusedVariables false
set_option linter.unusedSimpArgs false
namespace Go.Proofs.YtlmhphejgahfbaaGreatDoor
open Go.RowKit

theorem add_zero' (a : Addr) : a.add 0 = a := by unfold Addr.add; simp
theorem rd_num1 {w : World} {g : Nat} {n : Int} {t : TypeId} (h : w.heap[g]? = some (.cells #[.int .u8 1, .int .i64 n, .string ⟨#[]⟩] t (0, 0))) : Rd tVal w (fun i => i = g) (some ⟨g, 0, none⟩) [vI n] :=
  ⟨by simp, [.int .u8 1, .int .i64 n, .string ⟨#[]⟩], Row.single (t := tVal) ⟨[.int .u8 1], [.int .i64 n, .string ⟨#[]⟩], rfl, rfl, [.int .i64 n], [.string ⟨#[]⟩], rfl, rfl, rfl⟩, fun j u hu => ⟨_, rfl, rfl, by rw [add0, blk_cell h, ← Array.getElem?_toList]; exact hu⟩⟩
theorem ids_one {w : World} {g : Nat} {n : Int} {t : TypeId} (h : w.heap[g]? = some (.cells #[.int .i64 n] t (0, 0))) : IdsAt w (fun i => i = g) (some ⟨g, 0, none⟩) [n] := by
  refine ⟨(show 1 ≤ 1000 by decide), .inr ⟨g, 0, rfl, rfl, fun j hj => ?_⟩⟩
  have hj' : j < 1 := hj
  obtain rfl : j = 0 := by omega
  have := blk_cell h 0
  simpa using this
theorem int_first {w : World} {F : Nat → Prop} {A : Option Addr} {c n : Nat} {x : Int} {l : List Int} {e : TypeId} (h : Ow (Ty.int .i64) e w F (.slice A n c) (x :: l)) : ∃ ad, A = some ad ∧ w.cell? ad = some (.int .i64 x) := by
  obtain ⟨ad, cs, h1, hk, h0, _⟩ := h.rd.2.2.get' (i := 0) (by simp) (by decide)
  obtain rfl : cs = _ := hk
  have := h0 _ rfl
  rw [Nat.zero_mul, add_zero'] at this
  exact ⟨ad, h1, this⟩
theorem str_first {w : World} {F : Nat → Prop} {A : Option Addr} {c n : Nat} {x : ByteArray} {l : List ByteArray} {e : TypeId} (h : Ow Ty.str e w F (.slice A n c) (x :: l)) : ∃ ad, A = some ad ∧ w.cell? ad = some (.string x) := by
  obtain ⟨ad, cs, h1, hk, h0, _⟩ := h.rd.2.2.get' (i := 0) (by simp) (by decide)
  obtain rfl : cs = _ := hk
  have := h0 _ rfl
  rw [Nat.zero_mul, add_zero'] at this
  exact ⟨ad, h1, this⟩

set_option maxHeartbeats 4000000 in
set_option maxRecDepth 100000 in
theorem once_ok {w : World} (hk : KAt w) : Calls Tryz.prog 7 #[] w fun e w' => e = .returned (.bool true) ∧ Fr No w w' := by
  have HT := Lib.hid (tables_nil (w := w))
  have HK := Lib.hid hk
  clear hk
  go_enter Tryz.func7, Tryz.ntmps7
  go_wp2_with fail
  refine HT.out.mono ?_
  rintro e w1 ⟨A1, c1, rfl, hc1, hR1, hf1⟩
  have H1 := Lib.hid (And.intro hc1 (And.intro hR1 (And.intro hf1 (ledger_new2 (c := c1) hR1 tab0_ok (HK.out.fr0 hf1)))))
  clear hc1 hR1 hf1
  go_wp2_with fail
  refine H1.out.2.2.2.mono ?_
  rintro e w2 ⟨lb, rfl, hN2, hf2⟩
  have hf02 : Fr No w w2 := H1.out.2.2.1.next hf2 (fun _ _ f => f.elim)
  obtain ⟨col0, hL0, hz0⟩ := newAt_led (w0 := w) (w1 := w1) (F := fun i => w.heap.size ≤ i ∧ i < w1.heap.size) hN2 ((H1.out.2.1.mono (G := fun i => w.heap.size ≤ i ∧ i < w1.heap.size) fun i hi hl => ⟨hi, hl⟩).fr0 hf2) (fun i hi => hi) H1.out.1 HK.out (HK.out.fr0 hf02) H1.out.2.2.1.size
  have hbeg := led_begin_at hL0 (Led.Ok.new tab0_ok 4) (by decide)
  have H2 := Lib.hid (And.intro hbeg (And.intro hz0 hf02))
  clear hbeg hz0 hf02 hL0 hN2 hf2
  go_wp2_with fail
  refine H2.out.1.mono ?_
  rintro e w3 ⟨rfl, ⟨col1, hk1, hL1⟩, hf3⟩
  have hz1 : ∀ i, i < w.heap.size → col1 i = 0 := fun i hi => by rw [hk1 i (Nat.lt_of_lt_of_le hi H2.out.2.2.size)]; exact H2.out.2.1 i hi
  have hf03 : Fr No w w3 := (H2.out.2.2.next hf3 (F := No) (fun i hi e => by have := H2.out.2.1 i hi; omega))
  rw [show (Led.new [tab0]).next + 1 = 1 from rfl]
  have hfa : Fr No w3 (w3.alloc (.cells #[.int .u8 1, .int .i64 5, .string ⟨#[]⟩] 35)) := (Fr.refl No w3).alloc _
  have hput := led_put (id := 1) (x := ⟨1, 0, []⟩) (t := 0) (k := 1) (n := 1) (c' := 1) (row := [vI 5]) (hL1.fr0 hfa) (fun y hy => by obtain rfl : y = _ := List.mem_singleton.1 hy; decide) rfl (by decide) (numFits 5 (by decide) (by decide)) (rd_num1 (heap_alloc_new w3 _)) rfl (Nat.le_refl 1)
  have H3 := Lib.hid (And.intro hput (And.intro hz1 (hf03.next hfa (fun _ _ f => f.elim))))
  clear hput hz1 hf03 hfa hL1 hk1 hf3
  go_wp2_with fail
  refine H3.out.1.mono ?_
  rintro e w5 ⟨rfl, ⟨col2, hk2, hL2⟩, hf5⟩
  have hL2' : LedAt w5 col2 lb onceL := hL2
  have hz2 : ∀ i, i < w.heap.size → col2 i = 0 := fun i hi => by
    have h1 := H3.out.2.2.size
    rw [hk2 i (by omega)]; exact H3.out.2.1 i hi
  have hf05 : Fr No w w5 := H3.out.2.2.next hf5 (F := No) (fun i hi e => by have h1 := H3.out.2.1 i hi; have h2 := txCol_ge 1; rw [show col1 i = txCol 1 from e] at h1; omega)
  rw [show (wwrite [] (rowW 0 1 [vI 5])).2 = 0 from rfl]
  have hz5 := hf05.size
  have hfa : Fr No w5 (w5.alloc (.cells #[.int .i64 1] 3)) := (Fr.refl No w5).alloc _
  have hL3 : LedAt (w5.alloc (.cells #[.int .i64 1] 3)) (ext col2 w5.heap.size 9) lb onceL := (hL2'.recol (col' := ext col2 w5.heap.size 9) fun i hi => ext_old col2 hi).fr0 hfa
  have hgrp := led_group (ci := 1) (n := 1) (ids := [1]) hL3 onceL_ok (by decide) (ids_one (heap_alloc_new w5 _)) (fun i hi hl => by rw [show i = w5.heap.size from hi, ext_new col2 (Nat.le_refl _)]; omega) rfl (Nat.le_refl 1) (by decide)
  have H5 := Lib.hid (And.intro hgrp (And.intro (show ∀ i, i < w.heap.size → ext col2 w5.heap.size 9 i = 0 from fun i hi => by rw [ext_old col2 (by omega)]; exact hz2 i hi) (hf05.next hfa (fun _ _ f => f.elim))))
  clear hgrp hL3 hfa hz5 hf05 hz2 hL2' hL2 hk2 hf5
  go_wp2_with fail
  refine H5.out.1.mono ?_
  rintro e w7 ⟨Ao, co, ys, rfl, hOe, hperm, hrise, ⟨col4, hk4, hL4⟩, hf7⟩
  have hf07 : Fr No w w7 := H5.out.2.2.next hf7 (F := No) (fun i hi e => by have h1 := H5.out.2.1 i hi; omega)
  obtain ⟨hnow1, x, hsts⟩ := once_out hperm
  rw [onceL_form] at hOe
  obtain ⟨ad, rfl, g0⟩ := int_first hOe
  obtain ⟨L4, hL4e⟩ : ∃ L4, onceL.publish ys [1] = L4 := ⟨_, rfl⟩
  rw [hL4e] at hL4 hnow1 hsts
  have hnw := fun (W : World) (f : Fr No w7 W) => led_now (hL4.fr0 f)
  have hdg := fun (W : World) (f : Fr No w7 W) => led_digests (hL4.fr0 f) (by rw [hsts]; exact (show 2 ≤ 100 by decide))
  rw [hnow1] at hnw
  rw [hsts] at hdg
  have hkw := HK.out.fr0 hf07
  have HC := Lib.hid (And.intro hnw (And.intro hdg (And.intro (fun (W : World) (f : Fr No w7 W) => first_ok (hkw.fr0 f)) (And.intro (fun (W : World) => ref_first (w := W)) hf07))))
  have HF := Lib.hid (Fr.refl No w7)
  clear hnw hdg hkw hf07 hL4 hnow1 hsts hL4e hOe hperm hrise hk4 hf7
  go_wp2_with fail
  refine wp_region_tail 41 (fun w' => w'.cell? ad = some (.int .i64 0)) (by kernel_rfl) (by exact g0) (fun hHeld => ?_)
  refine WalkTail.take (i := 0) (v := ?v0) rfl (by kernel_rfl) (fun _ _ _ h => h) (Or.inl ⟨by rfl, ?hy0⟩) (by assumption) ?_
  case hy0 => (intro w hSw; (try dsimp only at hSw); go_simp; try with_reducible rfl)
  (try simp only [Act.put, List.setIfInBounds_toArray, List.set_cons_zero, List.set_cons_succ])
  refine WalkTail.take (i := 1) (v := ?v1) rfl (by kernel_rfl) (fun _ _ _ h => h) (Or.inl ⟨by rfl, ?hy1⟩) (by assumption) ?_
  case hy1 => (intro w hSw; (try dsimp only at hSw); go_simp; try with_reducible rfl)
  (try simp only [Act.put, List.setIfInBounds_toArray, List.set_cons_zero, List.set_cons_succ])
  refine WalkTail.take (i := 2) (v := ?v2) rfl (by kernel_rfl) (fun _ _ _ h => h) (Or.inl ⟨by rfl, ?hy2⟩) (by assumption) ?_
  case hy2 => (intro w hSw; (try dsimp only at hSw); go_simp; try with_reducible rfl)
  (try simp only [Act.put, List.setIfInBounds_toArray, List.set_cons_zero, List.set_cons_succ])
  refine WalkTail.take (i := 3) (v := ?v3) rfl (by kernel_rfl) (fun _ _ _ h => h) (Or.inl ⟨by rfl, ?hy3⟩) (by assumption) ?_
  case hy3 => (intro w hSw; (try dsimp only at hSw); go_simp; try with_reducible rfl)
  (try simp only [Act.put, List.setIfInBounds_toArray, List.set_cons_zero, List.set_cons_succ])
  refine WalkTail.take (i := 4) (v := ?v4) rfl (by kernel_rfl) (fun _ _ _ h => h) (Or.inl ⟨by rfl, ?hy4⟩) (by assumption) ?_
  case hy4 => (intro w hSw; (try dsimp only at hSw); go_simp; try with_reducible rfl)
  (try simp only [Act.put, List.setIfInBounds_toArray, List.set_cons_zero, List.set_cons_succ])
  refine WalkTail.take (i := 5) (v := ?v5) rfl (by kernel_rfl) (fun _ _ _ h => h) (Or.inl ⟨by rfl, ?hy5⟩) (by assumption) ?_
  case hy5 => (intro w hSw; (try dsimp only at hSw); go_simp; try with_reducible rfl)
  (try simp only [Act.put, List.setIfInBounds_toArray, List.set_cons_zero, List.set_cons_succ])
  refine WalkTail.take (i := 6) (v := ?v6) rfl (by kernel_rfl) (fun _ _ _ h => h) (Or.inl ⟨by rfl, ?hy6⟩) (by assumption) ?_
  case hy6 => (intro w hSw; (try dsimp only at hSw); go_simp; try with_reducible rfl)
  (try simp only [Act.put, List.setIfInBounds_toArray, List.set_cons_zero, List.set_cons_succ])
  refine WalkTail.take (i := 7) (v := ?v7) rfl (by kernel_rfl) (fun _ _ _ h => h) (Or.inl ⟨by rfl, ?hy7⟩) (by assumption) ?_
  case hy7 => (intro w hSw; (try dsimp only at hSw); go_simp; try with_reducible rfl)
  (try simp only [Act.put, List.setIfInBounds_toArray, List.set_cons_zero, List.set_cons_succ])
  refine WalkTail.take (i := 8) (v := ?v8) rfl (by kernel_rfl) (fun _ _ _ h => h) (Or.inl ⟨by rfl, ?hy8⟩) (by assumption) ?_
  case hy8 => (intro w hSw; (try dsimp only at hSw); go_simp; try with_reducible rfl)
  (try simp only [Act.put, List.setIfInBounds_toArray, List.set_cons_zero, List.set_cons_succ])
  refine WalkTail.take (i := 9) (v := ?v9) rfl (by kernel_rfl) (fun _ _ _ h => h) (Or.inl ⟨by rfl, ?hy9⟩) (by assumption) ?_
  case hy9 => (intro w hSw; (try dsimp only at hSw); go_simp; try with_reducible rfl)
  (try simp only [Act.put, List.setIfInBounds_toArray, List.set_cons_zero, List.set_cons_succ])
  refine WalkTail.take (i := 10) (v := ?v10) rfl (by kernel_rfl) (fun _ _ _ h => h) (Or.inl ⟨by rfl, ?hy10⟩) (by assumption) ?_
  case hy10 => (intro w hSw; (try dsimp only at hSw); go_simp; try with_reducible rfl)
  (try simp only [Act.put, List.setIfInBounds_toArray, List.set_cons_zero, List.set_cons_succ])
  refine WalkTail.take (i := 11) (v := ?v11) rfl (by kernel_rfl) (fun _ _ _ h => h) (Or.inl ⟨by rfl, ?hy11⟩) (by assumption) ?_
  case hy11 => (intro w hSw; (try dsimp only at hSw); go_simp; try with_reducible rfl)
  (try simp only [Act.put, List.setIfInBounds_toArray, List.set_cons_zero, List.set_cons_succ])
  refine WalkTail.take (i := 12) (v := ?v12) rfl (by kernel_rfl) (fun _ _ _ h => h) (Or.inl ⟨by rfl, ?hy12⟩) (by assumption) ?_
  case hy12 => (intro w hSw; (try dsimp only at hSw); go_simp; try with_reducible rfl)
  (try simp only [Act.put, List.setIfInBounds_toArray, List.set_cons_zero, List.set_cons_succ])
  refine WalkTail.take (i := 13) (v := ?v13) rfl (by kernel_rfl) (fun _ _ _ h => h) (Or.inl ⟨by rfl, ?hy13⟩) (by assumption) ?_
  case hy13 => (intro w hSw; (try dsimp only at hSw); go_simp; try with_reducible rfl)
  (try simp only [Act.put, List.setIfInBounds_toArray, List.set_cons_zero, List.set_cons_succ])
  refine WalkTail.take (i := 14) (v := ?v14) rfl (by kernel_rfl) (fun _ _ _ h => h) (Or.inl ⟨by rfl, ?hy14⟩) (by assumption) ?_
  case hy14 => (intro w hSw; (try dsimp only at hSw); go_simp; try with_reducible rfl)
  (try simp only [Act.put, List.setIfInBounds_toArray, List.set_cons_zero, List.set_cons_succ])
  refine WalkTail.take (i := 15) (v := ?v15) rfl (by kernel_rfl) (fun _ _ _ h => h) (Or.inl ⟨by rfl, ?hy15⟩) (by assumption) ?_
  case hy15 => (intro w hSw; (try dsimp only at hSw); go_simp; try with_reducible rfl)
  (try simp only [Act.put, List.setIfInBounds_toArray, List.set_cons_zero, List.set_cons_succ])
  refine WalkTail.take (i := 16) (v := ?v16) rfl (by kernel_rfl) (fun _ _ _ h => h) (Or.inl ⟨by rfl, ?hy16⟩) (by assumption) ?_
  case hy16 => (intro w hSw; (try dsimp only at hSw); go_simp; try with_reducible rfl)
  (try simp only [Act.put, List.setIfInBounds_toArray, List.set_cons_zero, List.set_cons_succ])
  refine WalkTail.take (i := 17) (v := ?v17) rfl (by kernel_rfl) (fun _ _ _ h => h) (Or.inl ⟨by rfl, ?hy17⟩) (by assumption) ?_
  case hy17 => (intro w hSw; (try dsimp only at hSw); go_simp; try with_reducible rfl)
  (try simp only [Act.put, List.setIfInBounds_toArray, List.set_cons_zero, List.set_cons_succ])
  refine WalkTail.take (i := 18) (v := ?v18) rfl (by kernel_rfl) (fun _ _ _ h => h) (Or.inl ⟨by rfl, ?hy18⟩) (by assumption) ?_
  case hy18 => (intro w hSw; (try dsimp only at hSw); go_simp; try with_reducible rfl)
  (try simp only [Act.put, List.setIfInBounds_toArray, List.set_cons_zero, List.set_cons_succ])
  refine WalkTail.one (i := 19) rfl (by kernel_rfl) (by decide) (fun K hK => ?_)
  go_simp
  go_at_call 20
  refine (HC.out.1 _ (by repeat (first | exact HF.out | apply Fr.drew | apply Fr.drewN))).mono ?_
  rintro e8 w8 ⟨rfl, he8⟩
  have hg8 : Fr No w7 w8 := by rw [he8]; repeat (first | exact HF.out | apply Fr.drew | apply Fr.drewN)
  clear he8
  have g0' := hg8.cell g0 (fun f => f)
  have HF := Lib.hid hg8
  clear hg8
  go_wp2_with fail
  refine hK.out _ _ ?_ (fun hHeld => ?_)
  · exact g0'
  clear hK K
  (try simp only [Act.put, List.setIfInBounds_toArray, List.set_cons_zero, List.set_cons_succ])
  refine WalkTail.take (i := 20) (v := ?v20) rfl (by kernel_rfl) (fun _ _ _ h => h) (Or.inl ⟨by rfl, ?hy20⟩) (by assumption) ?_
  case hy20 => (intro w hSw; (try dsimp only at hSw); go_simp; try with_reducible rfl)
  (try simp only [Act.put, List.setIfInBounds_toArray, List.set_cons_zero, List.set_cons_succ])
  refine WalkTail.take (i := 21) (v := ?v21) rfl (by kernel_rfl) (fun _ _ _ h => h) (Or.inl ⟨by rfl, ?hy21⟩) (by assumption) ?_
  case hy21 => (intro w hSw; (try dsimp only at hSw); go_simp; try with_reducible rfl)
  (try simp only [Act.put, List.setIfInBounds_toArray, List.set_cons_zero, List.set_cons_succ])
  refine WalkTail.take (i := 22) (v := ?v22) rfl (by kernel_rfl) (fun _ _ _ h => h) (Or.inl ⟨by rfl, ?hy22⟩) (by assumption) ?_
  case hy22 => (intro w hSw; (try dsimp only at hSw); go_simp; try with_reducible rfl)
  (try simp only [Act.put, List.setIfInBounds_toArray, List.set_cons_zero, List.set_cons_succ])
  refine WalkTail.take (i := 23) (v := ?v23) rfl (by kernel_rfl) (fun _ _ _ h => h) (Or.inl ⟨by rfl, ?hy23⟩) (by assumption) ?_
  case hy23 => (intro w hSw; (try dsimp only at hSw); go_simp; try with_reducible rfl)
  (try simp only [Act.put, List.setIfInBounds_toArray, List.set_cons_zero, List.set_cons_succ])
  refine WalkTail.one (i := 24) rfl (by kernel_rfl) (by decide) (fun K hK => ?_)
  go_simp
  go_at_call 17
  refine (HC.out.2.1 _ (by repeat (first | exact HF.out | apply Fr.drew | apply Fr.drewN))).mono ?_
  rintro e8 w8 ⟨A8, c8, rfl, ho8, hf8⟩
  have hg8 : Fr No w7 w8 := Fr.next (by repeat (first | exact HF.out | apply Fr.drew | apply Fr.drewN)) hf8 (fun _ _ f => f.elim)
  obtain ⟨ad8, rfl, s8⟩ := str_first ho8
  have g0' := hg8.cell g0 (fun f => f)
  have HF := Lib.hid hg8
  clear hg8 ho8 hf8
  go_wp2_with fail
  refine hK.out _ _ ?_ (fun hHeld => ?_)
  · exact g0'
  clear hK K
  (try simp only [Act.put, List.setIfInBounds_toArray, List.set_cons_zero, List.set_cons_succ])
  refine WalkTail.take (i := 25) (v := ?v25) rfl (by kernel_rfl) (fun _ _ _ h => h) (Or.inl ⟨by rfl, ?hy25⟩) (by assumption) ?_
  case hy25 => (intro w hSw; (try dsimp only at hSw); go_simp; try with_reducible rfl)
  (try simp only [Act.put, List.setIfInBounds_toArray, List.set_cons_zero, List.set_cons_succ])
  refine WalkTail.take (i := 26) (v := ?v26) rfl (by kernel_rfl) (fun _ _ _ h => h) (Or.inl ⟨by rfl, ?hy26⟩) (by assumption) ?_
  case hy26 => (intro w hSw; (try dsimp only at hSw); go_simp; try with_reducible rfl)
  (try simp only [Act.put, List.setIfInBounds_toArray, List.set_cons_zero, List.set_cons_succ])
  refine WalkTail.take (i := 27) (v := ?v27) rfl (by kernel_rfl) (fun _ _ _ h => h) (Or.inl ⟨by rfl, ?hy27⟩) (by assumption) ?_
  case hy27 => (intro w hSw; (try dsimp only at hSw); go_simp; try with_reducible rfl)
  (try simp only [Act.put, List.setIfInBounds_toArray, List.set_cons_zero, List.set_cons_succ])
  refine WalkTail.take (i := 28) (v := ?v28) rfl (by kernel_rfl) (fun _ _ _ h => h) (Or.inl ⟨by rfl, ?hy28⟩) (by assumption) ?_
  case hy28 => (intro w hSw; (try dsimp only at hSw); go_simp; try with_reducible rfl)
  (try simp only [Act.put, List.setIfInBounds_toArray, List.set_cons_zero, List.set_cons_succ])
  refine WalkTail.take (i := 29) (v := ?v29) rfl (by kernel_rfl) (fun _ _ _ h => h) (Or.inl ⟨by rfl, ?hy29⟩) (by assumption) ?_
  case hy29 => (intro w hSw; (try dsimp only at hSw); go_simp; try with_reducible rfl)
  (try simp only [Act.put, List.setIfInBounds_toArray, List.set_cons_zero, List.set_cons_succ])
  refine WalkTail.one (i := 30) rfl (by kernel_rfl) (by decide) (fun K hK => ?_)
  go_simp
  go_at_call 17
  refine (HC.out.2.1 _ (by repeat (first | exact HF.out | apply Fr.drew | apply Fr.drewN))).mono ?_
  rintro e8 w8 ⟨A8, c8, rfl, ho8, hf8⟩
  have hg8 : Fr No w7 w8 := Fr.next (by repeat (first | exact HF.out | apply Fr.drew | apply Fr.drewN)) hf8 (fun _ _ f => f.elim)
  obtain ⟨ad8, rfl, s8⟩ := str_first ho8
  have g0' := hg8.cell g0 (fun f => f)
  have HF := Lib.hid hg8
  clear hg8 ho8 hf8
  go_wp2_with fail
  refine hK.out _ _ ?_ (fun hHeld => ?_)
  · exact g0'
  clear hK K
  (try simp only [Act.put, List.setIfInBounds_toArray, List.set_cons_zero, List.set_cons_succ])
  refine WalkTail.turn (fun w' => w'.cell? ad = some (.int .i64 0) ∧ w'.cell? ad8 = some (.string firstD)) (fun _ h => h.1) ⟨g0', s8⟩ (fun hHeld => ?_)
  refine WalkTail.take (i := 31) (v := ?v31) rfl (by kernel_rfl) (fun _ _ _ h => h) (Or.inl ⟨by rfl, ?hy31⟩) (by assumption) ?_
  case hy31 => (intro w hSw; (try dsimp only at hSw); go_simp; try with_reducible rfl)
  (try simp only [Act.put, List.setIfInBounds_toArray, List.set_cons_zero, List.set_cons_succ])
  refine WalkTail.take (i := 32) (v := ?v32) rfl (by kernel_rfl) (fun _ _ _ h => h) (Or.inl ⟨by rfl, ?hy32⟩) (by assumption) ?_
  case hy32 => (intro w hSw; (try dsimp only at hSw); go_simp; try with_reducible rfl)
  (try simp only [Act.put, List.setIfInBounds_toArray, List.set_cons_zero, List.set_cons_succ])
  refine WalkTail.one (i := 33) rfl (by kernel_rfl) (by decide) (fun K hK => ?_)
  go_simp
  go_at_call 35
  refine (HC.out.2.2.1 _ (by repeat (first | exact HF.out | apply Fr.drew | apply Fr.drewN))).mono ?_
  rintro e9 w9 ⟨rfl, hf9⟩
  have hg9 : Fr No w7 w9 := Fr.next (by repeat (first | exact HF.out | apply Fr.drew | apply Fr.drewN)) hf9 (fun _ _ f => f.elim)
  have s8 := hf9.cell s8 (fun f => f)
  have g0' := hg9.cell g0 (fun f => f)
  have HF := Lib.hid hg9
  clear hg9 hf9
  go_wp2_with fail
  refine hK.out _ _ ?_ (fun hHeld => ?_)
  · exact ⟨g0', s8⟩
  clear hK K
  (try simp only [Act.put, List.setIfInBounds_toArray, List.set_cons_zero, List.set_cons_succ])
  refine WalkTail.take (i := 34) (v := ?v34) rfl (by kernel_rfl) (fun _ _ _ h => h) (Or.inl ⟨by rfl, ?hy34⟩) (by assumption) ?_
  case hy34 => (intro w hSw; (try dsimp only at hSw); go_simp; try with_reducible rfl)
  (try simp only [Act.put, List.setIfInBounds_toArray, List.set_cons_zero, List.set_cons_succ])
  refine WalkTail.take (i := 35) (v := ?v35) rfl (by kernel_rfl) (fun _ _ _ h => h) (Or.inl ⟨by rfl, ?hy35⟩) (by assumption) ?_
  case hy35 => (intro w hSw; (try dsimp only at hSw); go_simp; try with_reducible rfl)
  (try simp only [Act.put, List.setIfInBounds_toArray, List.set_cons_zero, List.set_cons_succ])
  refine WalkTail.take (i := 36) (v := ?v36) rfl (by kernel_rfl) (fun _ _ _ h => h) (Or.inl ⟨by rfl, ?hy36⟩) (by assumption) ?_
  case hy36 => (intro w hSw; (try dsimp only at hSw); go_simp; try with_reducible rfl)
  (try simp only [Act.put, List.setIfInBounds_toArray, List.set_cons_zero, List.set_cons_succ])
  refine WalkTail.one (i := 37) rfl (by kernel_rfl) (by decide) (fun K hK => ?_)
  go_simp
  go_at_call 35
  refine (HC.out.2.2.1 _ (by repeat (first | exact HF.out | apply Fr.drew | apply Fr.drewN))).mono ?_
  rintro e9 w9 ⟨rfl, hf9⟩
  have hg9 : Fr No w7 w9 := Fr.next (by repeat (first | exact HF.out | apply Fr.drew | apply Fr.drewN)) hf9 (fun _ _ f => f.elim)
  have s8 := hf9.cell s8 (fun f => f)
  have g0' := hg9.cell g0 (fun f => f)
  have HF := Lib.hid hg9
  clear hg9 hf9
  go_wp2_with fail
  refine hK.out _ _ ?_ (fun hHeld => ?_)
  · exact ⟨g0', s8⟩
  clear hK K
  (try simp only [Act.put, List.setIfInBounds_toArray, List.set_cons_zero, List.set_cons_succ])
  refine WalkTail.one (i := 38) rfl (by kernel_rfl) (by decide) (fun K hK => ?_)
  go_simp
  go_at_call 36
  refine (HC.out.2.2.2.1 _).mono ?_
  rintro e9 w9 ⟨rfl, hf9⟩
  have hg9 : Fr No w7 w9 := Fr.next (by repeat (first | exact HF.out | apply Fr.drew | apply Fr.drewN)) hf9 (fun _ _ f => f.elim)
  have s8 := hf9.cell s8 (fun f => f)
  have g0' := hg9.cell g0 (fun f => f)
  have HF := Lib.hid hg9
  clear hg9 hf9
  go_wp2_with fail
  refine hK.out _ _ ?_ (fun hHeld => ?_)
  · exact ⟨g0', s8⟩
  clear hK K
  (try simp only [Act.put, List.setIfInBounds_toArray, List.set_cons_zero, List.set_cons_succ])
  refine WalkTail.take (i := 39) (v := ?v39) rfl (by kernel_rfl) (fun _ _ _ h => h) (Or.inl ⟨by rfl, ?hy39⟩) (by assumption) ?_
  case hy39 => (intro w hSw; (try dsimp only at hSw); go_simp; try with_reducible rfl)
  (try simp only [Act.put, List.setIfInBounds_toArray, List.set_cons_zero, List.set_cons_succ])
  refine WalkTail.take (i := 40) (v := ?v40) rfl (by kernel_rfl) (fun _ _ _ h => h) (Or.inl ⟨by rfl, ?hy40⟩) (by assumption) ?_
  case hy40 => (intro w hSw; (try dsimp only at hSw); go_simp; try with_reducible rfl)
  (try simp only [Act.put, List.setIfInBounds_toArray, List.set_cons_zero, List.set_cons_succ])
  refine WalkTail.last rfl (by kernel_rfl) (by kernel_rfl) (fun K hK => ?_)
  go_simp
  refine hK.out _ _ ?_
  all_goals
    go_wp2_with fail
    go_ret
    exact ⟨by simp, HC.out.2.2.2.2.next HF.out (fun _ _ f => f.elim)⟩
end Go.Proofs.YtlmhphejgahfbaaGreatDoor
