/- Layer 14 (tx): Late. -/
import Derived.Test.YtkcppngopdiljaaRef06c
import Derived.Test.YtkcppngopdiljaaStore2
import Derived.Deep.RegionHeld3
set_option linter.unusedVariables false
set_option linter.unusedSimpArgs false
namespace Go.Proofs.Ytkcppngopdiljaa
open Go.RowKit

set_option maxHeartbeats 1000000 in
set_option maxRecDepth 100000 in
/-- slices.IndexFunc, of a function that only reads: is there one of which it says yes? -/
theorem index_ok (g : Nat) (caps : Array Value) (p : Wr → Bool) {w : World} {F : Nat → Prop} {A : Option Addr} {c : Nat} {ws : List Wr} (h : Rd tWr w F A ws) (hl : ws.length ≤ 1000000000)
    (he : ∀ args w, Sem.run Try.prog (callFunc g args) w = .ok (.enter g args) w)
    (hg : ∀ i (hi : i < ws.length) A' c' w', Fr No w w' → Calls Try.prog g (#[.agg #[.string ws[i].key, .slice A' ws[i].row.length c', .bool ws[i].gone]] ++ caps) w' fun e w'' => e = .returned (.bool (p ws[i])) ∧ Fr No w' w'') :
    Calls Try.prog 63 #[.slice A ws.length c, .func (.func g) #[] caps] w fun e w' => ∃ r : Int, e = .returned (.int .i64 r) ∧ decide (0 ≤ r) = ws.any p ∧ Fr No w w' := by
  have HG := Lib.hid hg
  have H := Lib.hid h
  have hli : (ws.length : Int) ≤ 1000000000 := by omega
  clear hg h
  go_enter Try.func63, Try.ntmps63
  go_wp2_with fail
  go_loopw [8] (fun i wr => ∃ k : Nat, k ≤ ws.length ∧ i = .int .i64 k ∧ Hid ((ws.take k).any p = false ∧ Fr No w wr)) (fun i _ => ws.length - (intOf i).toNat)
  case atStart => exact ⟨0, Nat.zero_le _, rfl, rfl, Fr.refl _ _⟩
  case round =>
    obtain ⟨k, hk, rfl, I⟩ := hrel
    have hq0 : (0 : Int) ≤ (k : Int) := Int.natCast_nonneg _
    by_cases hlt : k < ws.length
    · have hq1 : (k : Int) < (ws.length : Int) := by omega
      obtain ⟨ad, A', c', rfl, x0, x1, x2, _, _⟩ := wr_at (H.out.fr0 I.out.2) hlt
      have hcall := HG.out k hlt A' c' wr I.out.2
      have hany : (ws.take (k + 1)).any p = p ws[k] := by rw [List.take_succ_eq_append_getElem hlt, List.any_append, I.out.1]; simp
      have hall : p ws[k] = true → ws.any p = true := fun h => List.any_eq_true.2 ⟨_, List.getElem_mem hlt, h⟩
      obtain ⟨x, hx⟩ : ∃ x, ws[k] = x := ⟨_, rfl⟩
      rw [hx] at x0 x1 x2 hany hall
      simp only [hx] at hcall
      have HC := Lib.hid (And.intro hcall (And.intro hany hall))
      clear hcall hany hall hx
      cases hp : p x with
      | true =>
        go_wp2_with (refine HC.out.1.mono ?_; rintro e w' ⟨rfl, hf'⟩; rw [hp]; have HF := Lib.hid hf'; clear hf')
        go_ret
        exact ⟨_, rfl, by rw [HC.out.2.2 hp]; exact decide_eq_true hq0, I.out.2.trans (HF.out.mono fun _ _ f => f.elim)⟩
      | false =>
        go_wp2_with (refine HC.out.1.mono ?_; rintro e w' ⟨rfl, hf'⟩; rw [hp]; have HF := Lib.hid hf'; clear hf')
        go_roundw
        case rel => exact ⟨k + 1, by omega, by go_num, by rw [HC.out.2.1]; exact hp, I.out.2.trans (HF.out.mono fun _ _ f => f.elim)⟩
        case measure => simp [intOf]; omega
    · obtain rfl : k = ws.length := by omega
      have hI := I.out.1
      rw [List.take_length] at hI
      have HI := Lib.hid hI
      clear hI
      go_wp2_with fail
      go_ret
      exact ⟨_, rfl, by rw [HI.out]; rfl, I.out.2⟩
theorem contains_ok (g : Nat) (caps : Array Value) (p : Wr → Bool) {w : World} {F : Nat → Prop} {A : Option Addr} {c : Nat} {ws : List Wr} (h : Rd tWr w F A ws) (hl : ws.length ≤ 1000000000)
    (he : ∀ args w, Sem.run Try.prog (callFunc g args) w = .ok (.enter g args) w)
    (hg : ∀ i (hi : i < ws.length) A' c' w', Fr No w w' → Calls Try.prog g (#[.agg #[.string ws[i].key, .slice A' ws[i].row.length c', .bool ws[i].gone]] ++ caps) w' fun e w'' => e = .returned (.bool (p ws[i])) ∧ Fr No w' w'') :
    Calls Try.prog 40 #[.slice A ws.length c, .func (.func g) #[] caps] w fun e w' => e = .returned (.bool (ws.any p)) ∧ Fr No w w' := by
  have H := Lib.hid (index_ok g caps p (c := c) h hl he hg)
  clear h hg
  go_enter Try.func40, Try.ntmps40
  go_wp2_with fail
  refine H.out.mono ?_
  rintro e1 w1 ⟨r, rfl, hr, hf⟩
  have HF := Lib.hid (And.intro hr hf)
  clear hr hf
  go_wp2_with fail
  go_ret
  refine ⟨?_, HF.out.2⟩
  rw [← HF.out.1]
  first | rfl | simp

set_option maxHeartbeats 1000000 in
set_option maxRecDepth 100000 in
theorem late_fn {w : World} {FX FS : Nat → Prop} {xb sb b2 b3 : Nat} {base : Int} {ws : List Wr} {s : Sto} {A' : Option Addr} {n c' : Nat} {g : Bool} (key : ByteArray) (hT : TxAt w FX xb base ws) (hS : StoreAt w FS sb s) (h3 : w.cell? ⟨b3, 0, none⟩ = some (.pointer (some ⟨sb, 0, none⟩))) (h2 : w.cell? ⟨b2, 0, none⟩ = some (.pointer (some ⟨xb, 0, none⟩))) :
    Calls Try.prog 41 #[.agg #[.string key, .slice A' n c', .bool g], .pointer (some ⟨b3, 0, none⟩), .pointer (some ⟨b2, 0, none⟩)] w fun e w' => e = .returned (.bool (decide (base < s.last key))) ∧ Fr No w w' := by
  obtain ⟨W, hW⟩ : ∃ W, W = w.alloc (.cells #[.string key, .slice A' n c', .bool g] 43) := ⟨_, rfl⟩
  have hfW : Fr No w W := by rw [hW]; exact (Fr.refl No w).alloc _
  have hbW : W.heap[w.heap.size]? = some (.cells #[.string key, .slice A' n c', .bool g] 43 (0, 0)) := by rw [hW]; exact heap_alloc_new w _
  have hx : W.cell? ⟨xb, 0, none⟩ = some (.int .i64 base) := by
    obtain ⟨_, mb, l, _, _, h4, _, _⟩ := hT
    have := blk_cell (hfW.blk h4 (fun f => f)) 0
    simpa using this
  have k0 := blk_cell hbW 0
  simp at k0
  have c3 := hfW.cell h3 (fun f => f)
  have c2 := hfW.cell h2 (fun f => f)
  have hlast := fun w' (f : Fr No W w') => store_last ((hS.fr0 hfW).fr0 f) key
  have H := Lib.hid (And.intro hlast hfW)
  clear hT hS h3 h2 hfW hbW hlast
  go_enter Try.func41, Try.ntmps41
  go_wp2_with fail
  rw [← hW]
  clear hW
  go_region_held3 (fun w' => w'.cell? ⟨b3, 0, none⟩ = some (.pointer (some ⟨sb, 0, none⟩)) ∧ w'.cell? ⟨w.heap.size, 0, none⟩ = some (.string key) ∧ w'.cell? ⟨b2, 0, none⟩ = some (.pointer (some ⟨xb, 0, none⟩)) ∧ w'.cell? ⟨xb, 0, none⟩ = some (.int .i64 base))
    (exact ⟨c3, k0, c2, hx⟩)
    (first
      | (go_at_call 42; refine (H.out.1 _ (by repeat (first | exact Fr.refl _ _ | apply Fr.drew | apply Fr.drewN))).mono ?_; rintro e7 w7 ⟨rfl, rfl⟩))
  all_goals
    go_wp2_with fail
    go_ret
    exact ⟨by simp, H.out.2.trans (Fr.mono (F := No) (by repeat (first | exact Fr.refl _ _ | apply Fr.drew | apply Fr.drewN)) fun _ _ f => f.elim)⟩

set_option maxHeartbeats 1000000 in
set_option maxRecDepth 100000 in
theorem tx_late {w : World} {FX FS : Nat → Prop} {xb sb : Nat} {base : Int} {ws : List Wr} {s : Sto} (hT : TxAt w FX xb base ws) (hS : StoreAt w FS sb s) (hl : ws.length ≤ 1000000) (hk : ∀ x ∈ ws, x.key.size ≤ 1000000000 ∧ x.row.length ≤ 1000000000) :
    Calls Try.prog 23 #[.pointer (some ⟨xb, 0, none⟩), .pointer (some ⟨sb, 0, none⟩)] w fun e w' => e = .returned (.bool (ws.any fun x => decide (base < s.last x.key))) ∧ Fr No w w' := by
  obtain ⟨W, hW⟩ : ∃ W, W = (w.alloc (.cells #[.pointer (some ⟨xb, 0, none⟩)] 23)).alloc (.cells #[.pointer (some ⟨sb, 0, none⟩)] 46) := ⟨_, rfl⟩
  have hfW : Fr No w W := by rw [hW]; exact ((Fr.refl No w).alloc _).alloc _
  have c2 : W.cell? ⟨w.heap.size, 0, none⟩ = some (.pointer (some ⟨xb, 0, none⟩)) := by rw [hW]; exact cell_two1 _ _ _ _
  have c3 : W.cell? ⟨w.heap.size + 1, 0, none⟩ = some (.pointer (some ⟨sb, 0, none⟩)) := by rw [hW]; exact cell_two2 _ _ _ _
  have hwr := tx_writes (hT.fr0 hfW) hl hk
  have HW := Lib.hid (And.intro hwr (And.intro hfW (And.intro (hT.fr0 hfW) (And.intro (hS.fr0 hfW) (And.intro c2 c3)))))
  clear hwr hfW hT hS hk c3
  go_enter Try.func23, Try.ntmps23
  go_wp2_with fail
  rw [← hW]
  clear hW
  refine HW.out.1.mono ?_
  rintro e1 w1 ⟨A1, c1, rfl, ho1, hf1⟩
  have hcon := contains_ok 41 #[.pointer (some ⟨w.heap.size + 1, 0, none⟩), .pointer (some ⟨w.heap.size, 0, none⟩)] (fun x => decide (base < s.last x.key)) (c := c1) ho1.rd.2.2.wrO (by omega) Try.call41
    (fun i hi A' c' w' hf' => late_fn ws[i].key ((HW.out.2.2.1.fr0 hf1).fr0 hf') ((HW.out.2.2.2.1.fr0 hf1).fr0 hf') (hf'.cell (hf1.cell HW.out.2.2.2.2.2 (fun f => f)) (fun f => f)) (hf'.cell (hf1.cell HW.out.2.2.2.2.1 (fun f => f)) (fun f => f)))
  have HC := Lib.hid (And.intro hcon (HW.out.2.1.trans (hf1.mono fun _ _ f => f.elim)))
  clear hcon ho1 hf1
  go_wp2_with fail
  refine HC.out.1.mono ?_
  rintro e2 w2 ⟨rfl, hf2⟩
  have HF := Lib.hid (HC.out.2.trans (hf2.mono fun _ _ f => f.elim))
  clear hf2
  go_wp2_with fail
  go_ret
  exact ⟨rfl, HF.out⟩
end Go.Proofs.Ytkcppngopdiljaa
