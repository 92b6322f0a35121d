/- Texts of this claim, one behind the other: Late, SpecF, Val. -/
import Derived.Test.YtlmhphejgahfbaaGreatDoorMrowledgerfirst17
import Derived.Test.YtlmhphejgahfbaaGreatDoorMrowledgerfirst18
import Derived.Test.YtlmhphejgahfbaaGreatDoorMrowledgerfirst16
import Derived.Test.YtlmhphejgahfbaaGreatDoorMrowledgerfirst15
import Derived.Deep.RegionHeld3
import Derived.Test.YtlmhphejgahfbaaGreatDoorMrowledgerfirst8
import Derived.Test.YtlmhphejgahfbaaGreatDoorMrowledgerfirst14
/- Layer 14 (tx): Late. -/
set_option linter.unusedVariables false
set_option linter.unusedSimpArgs false
namespace Go.Proofs.YtlmhphejgahfbaaGreatDoor
open Go.RowKit

theorem Rd.wrO {w : World} {F : Nat → Prop} {A : Option Addr} {ws : List Wr} (h : Rd tWrO w F A ws) : Rd tWr w F A ws := by
  obtain ⟨h0, cs, h1, h2⟩ := h
  refine ⟨h0, cs, ?_, h2⟩
  clear h2 h0
  induction ws generalizing cs with
  | nil => exact h1
  | cons x ws ih =>
    obtain ⟨c, d, rfl, hx, hd⟩ := h1
    obtain ⟨A', c', rfl, ho⟩ := tWrO_open hx
    exact ⟨_, d, rfl, tWr_mk (a := x.key) (r := x.row) (g := x.gone) ho.rd.2.1 ho.rd.2.2, ih d hd⟩

set_option maxHeartbeats 1000000 in
set_option maxRecDepth 100000 in
/-- slices.IndexFunc, of a function that only reads: is there one of which it says yes? -/
theorem index_ok (g : Nat) (caps : Array Value) (p : Wr → Bool) {w : World} {F : Nat → Prop} {A : Option Addr} {c : Nat} {ws : List Wr} (h : Rd tWr w F A ws) (hl : ws.length ≤ 1000000000)
    (he : ∀ args w, Sem.run Tryz.prog (callFunc g args) w = .ok (.enter g args) w)
    (hg : ∀ i (hi : i < ws.length) A' c' w', Fr No w w' → Calls Tryz.prog g (#[.agg #[.string ws[i].key, .slice A' ws[i].row.length c', .bool ws[i].gone]] ++ caps) w' fun e w'' => e = .returned (.bool (p ws[i])) ∧ Fr No w' w'') :
    Calls Tryz.prog 180 #[.slice A ws.length c, .func (.func g) #[] caps] w fun e w' => ∃ r : Int, e = .returned (.int .i64 r) ∧ decide (0 ≤ r) = ws.any p ∧ Fr No w w' := by
  have HG := Lib.hid hg
  have H := Lib.hid h
  have hli : (ws.length : Int) ≤ 1000000000 := by omega
  clear hg h
  go_enter Tryz.func180, Tryz.ntmps180
  go_wp2_with fail
  go_loopw [8] (fun i wr => ∃ k : Nat, k ≤ ws.length ∧ i = .int .i64 k ∧ Hid ((ws.take k).any p = false ∧ Fr No w wr)) (fun i _ => ws.length - (intOf i).toNat)
  case atStart => exact ⟨0, Nat.zero_le _, rfl, rfl, Fr.refl _ _⟩
  case round =>
    obtain ⟨k, hk, rfl, I⟩ := hrel
    have hq0 : (0 : Int) ≤ (k : Int) := Int.natCast_nonneg _
    by_cases hlt : k < ws.length
    · have hq1 : (k : Int) < (ws.length : Int) := by omega
      obtain ⟨ad, A', c', rfl, x0, x1, x2, _, _⟩ := wrr_at (H.out.fr0 I.out.2) hlt
      have hcall := HG.out k hlt A' c' wr I.out.2
      have hany : (ws.take (k + 1)).any p = p ws[k] := by rw [List.take_succ_eq_append_getElem hlt, List.any_append, I.out.1]; simp
      have hall : p ws[k] = true → ws.any p = true := fun h => List.any_eq_true.2 ⟨_, List.getElem_mem hlt, h⟩
      obtain ⟨x, hx⟩ : ∃ x, ws[k] = x := ⟨_, rfl⟩
      rw [hx] at x0 x1 x2 hany hall
      simp only [hx] at hcall
      have HC := Lib.hid (And.intro hcall (And.intro hany hall))
      clear hcall hany hall hx
      cases hp : p x with
      | true =>
        go_wp2_with (refine HC.out.1.mono ?_; rintro e w' ⟨rfl, hf'⟩; rw [hp]; have HF := Lib.hid hf'; clear hf')
        go_ret
        exact ⟨_, rfl, by rw [HC.out.2.2 hp]; exact decide_eq_true hq0, I.out.2.trans (HF.out.mono fun _ _ f => f.elim)⟩
      | false =>
        go_wp2_with (refine HC.out.1.mono ?_; rintro e w' ⟨rfl, hf'⟩; rw [hp]; have HF := Lib.hid hf'; clear hf')
        go_roundw
        case rel => exact ⟨k + 1, by omega, by go_num, by rw [HC.out.2.1]; exact hp, I.out.2.trans (HF.out.mono fun _ _ f => f.elim)⟩
        case measure => simp [intOf]; omega
    · obtain rfl : k = ws.length := by omega
      have hI := I.out.1
      rw [List.take_length] at hI
      have HI := Lib.hid hI
      clear hI
      go_wp2_with fail
      go_ret
      exact ⟨_, rfl, by rw [HI.out]; rfl, I.out.2⟩
theorem contains_ok (g : Nat) (caps : Array Value) (p : Wr → Bool) {w : World} {F : Nat → Prop} {A : Option Addr} {c : Nat} {ws : List Wr} (h : Rd tWr w F A ws) (hl : ws.length ≤ 1000000000)
    (he : ∀ args w, Sem.run Tryz.prog (callFunc g args) w = .ok (.enter g args) w)
    (hg : ∀ i (hi : i < ws.length) A' c' w', Fr No w w' → Calls Tryz.prog g (#[.agg #[.string ws[i].key, .slice A' ws[i].row.length c', .bool ws[i].gone]] ++ caps) w' fun e w'' => e = .returned (.bool (p ws[i])) ∧ Fr No w' w'') :
    Calls Tryz.prog 134 #[.slice A ws.length c, .func (.func g) #[] caps] w fun e w' => e = .returned (.bool (ws.any p)) ∧ Fr No w w' := by
  have H := Lib.hid (index_ok g caps p (c := c) h hl he hg)
  clear h hg
  go_enter Tryz.func134, Tryz.ntmps134
  go_wp2_with fail
  refine H.out.mono ?_
  rintro e1 w1 ⟨r, rfl, hr, hf⟩
  have HF := Lib.hid (And.intro hr hf)
  clear hr hf
  go_wp2_with fail
  go_ret
  refine ⟨?_, HF.out.2⟩
  rw [← HF.out.1]
  first | rfl | simp

set_option maxHeartbeats 1000000 in
set_option maxRecDepth 100000 in
theorem late_fn {w : World} {FX FS : Nat → Prop} {xb sb b2 b3 : Nat} {base : Int} {ws : List Wr} {s : Sto} {A' : Option Addr} {n c' : Nat} {g : Bool} (key : ByteArray) (hT : TxAt w FX xb base ws) (hS : StoreAt w FS sb s) (h3 : w.cell? ⟨b3, 0, none⟩ = some (.pointer (some ⟨sb, 0, none⟩))) (h2 : w.cell? ⟨b2, 0, none⟩ = some (.pointer (some ⟨xb, 0, none⟩))) :
    Calls Tryz.prog 135 #[.agg #[.string key, .slice A' n c', .bool g], .pointer (some ⟨b3, 0, none⟩), .pointer (some ⟨b2, 0, none⟩)] w fun e w' => e = .returned (.bool (decide (base < s.last key))) ∧ Fr No w w' := by
  obtain ⟨W, hW⟩ : ∃ W, W = w.alloc (.cells #[.string key, .slice A' n c', .bool g] 117) := ⟨_, rfl⟩
  have hfW : Fr No w W := by rw [hW]; exact (Fr.refl No w).alloc _
  have hbW : W.heap[w.heap.size]? = some (.cells #[.string key, .slice A' n c', .bool g] 117 (0, 0)) := by rw [hW]; exact heap_alloc_new w _
  have hx : W.cell? ⟨xb, 0, none⟩ = some (.int .i64 base) := by
    obtain ⟨_, mb, l, _, _, h4, _, _⟩ := hT
    have := blk_cell (hfW.blk h4 (fun f => f)) 0
    simpa using this
  have k0 := blk_cell hbW 0
  simp at k0
  have c3 := hfW.cell h3 (fun f => f)
  have c2 := hfW.cell h2 (fun f => f)
  have hlast := fun w' (f : Fr No W w') => store_last ((hS.fr0 hfW).fr0 f) key
  have H := Lib.hid (And.intro hlast hfW)
  clear hT hS h3 h2 hfW hbW hlast
  go_enter Tryz.func135, Tryz.ntmps135
  go_wp2_with fail
  rw [← hW]
  clear hW
  go_region_held3 (fun w' => w'.cell? ⟨b3, 0, none⟩ = some (.pointer (some ⟨sb, 0, none⟩)) ∧ w'.cell? ⟨w.heap.size, 0, none⟩ = some (.string key) ∧ w'.cell? ⟨b2, 0, none⟩ = some (.pointer (some ⟨xb, 0, none⟩)) ∧ w'.cell? ⟨xb, 0, none⟩ = some (.int .i64 base))
    (exact ⟨c3, k0, c2, hx⟩)
    (first
      | (go_at_call 136; refine (H.out.1 _ (by repeat (first | exact Fr.refl _ _ | apply Fr.drew | apply Fr.drewN))).mono ?_; rintro e7 w7 ⟨rfl, rfl⟩))
  all_goals
    go_wp2_with fail
    go_ret
    exact ⟨by simp, H.out.2.trans (Fr.mono (F := No) (by repeat (first | exact Fr.refl _ _ | apply Fr.drew | apply Fr.drewN)) fun _ _ f => f.elim)⟩

set_option maxHeartbeats 1000000 in
set_option maxRecDepth 100000 in
theorem tx_late {w : World} {FX FS : Nat → Prop} {xb sb : Nat} {base : Int} {ws : List Wr} {s : Sto} (hT : TxAt w FX xb base ws) (hS : StoreAt w FS sb s) (hl : ws.length ≤ 1000000) (hk : ∀ x ∈ ws, x.key.size ≤ 1000000000 ∧ x.row.length ≤ 1000000000) :
    Calls Tryz.prog 72 #[.pointer (some ⟨xb, 0, none⟩), .pointer (some ⟨sb, 0, none⟩)] w fun e w' => e = .returned (.bool (ws.any fun x => decide (base < s.last x.key))) ∧ Fr No w w' := by
  obtain ⟨W, hW⟩ : ∃ W, W = (w.alloc (.cells #[.pointer (some ⟨xb, 0, none⟩)] 102)).alloc (.cells #[.pointer (some ⟨sb, 0, none⟩)] 82) := ⟨_, rfl⟩
  have hfW : Fr No w W := by rw [hW]; exact ((Fr.refl No w).alloc _).alloc _
  have c2 : W.cell? ⟨w.heap.size, 0, none⟩ = some (.pointer (some ⟨xb, 0, none⟩)) := by rw [hW]; exact cell_two1 _ _ _ _
  have c3 : W.cell? ⟨w.heap.size + 1, 0, none⟩ = some (.pointer (some ⟨sb, 0, none⟩)) := by rw [hW]; exact cell_two2 _ _ _ _
  have hwr := tx_writes (hT.fr0 hfW) hl hk
  have HW := Lib.hid (And.intro hwr (And.intro hfW (And.intro (hT.fr0 hfW) (And.intro (hS.fr0 hfW) (And.intro c2 c3)))))
  clear hwr hfW hT hS hk c3
  go_enter Tryz.func72, Tryz.ntmps72
  go_wp2_with fail
  rw [← hW]
  clear hW
  refine HW.out.1.mono ?_
  rintro e1 w1 ⟨A1, c1, rfl, ho1, hf1⟩
  have hcon := contains_ok 135 #[.pointer (some ⟨w.heap.size + 1, 0, none⟩), .pointer (some ⟨w.heap.size, 0, none⟩)] (fun x => decide (base < s.last x.key)) (c := c1) ho1.rd.2.2.wrO (by omega) Tryz.call135
    (fun i hi A' c' w' hf' => late_fn ws[i].key ((HW.out.2.2.1.fr0 hf1).fr0 hf') ((HW.out.2.2.2.1.fr0 hf1).fr0 hf') (hf'.cell (hf1.cell HW.out.2.2.2.2.2 (fun f => f)) (fun f => f)) (hf'.cell (hf1.cell HW.out.2.2.2.2.1 (fun f => f)) (fun f => f)))
  have HC := Lib.hid (And.intro hcon (HW.out.2.1.trans (hf1.mono fun _ _ f => f.elim)))
  clear hcon ho1 hf1
  go_wp2_with fail
  refine HC.out.1.mono ?_
  rintro e2 w2 ⟨rfl, hf2⟩
  have HF := Lib.hid (HC.out.2.trans (hf2.mono fun _ _ f => f.elim))
  clear hf2
  go_wp2_with fail
  go_ret
  exact ⟨rfl, HF.out⟩

/-! ### meets -/
theorem look_names_mem {l : List ByteArray} {s : ByteArray} (h : s ∈ l) : look s (namesM l) = some (.bool true) := by
  induction l with
  | nil => cases h
  | cons x l ih =>
    unfold namesM look
    simp only [List.map_cons]
    by_cases e : x = s
    · rw [if_pos e]
    · rw [if_neg e]; exact ih (by rcases List.mem_cons.1 h with h | h; exact absurd h.symm e; exact h)
/-- Is it there? -/
def hasK (l : List ByteArray) (k : ByteArray) : Bool := l.any fun y => decide (y = k)
theorem hasK_iff {l : List ByteArray} {k : ByteArray} : hasK l k = true ↔ k ∈ l := by
  unfold hasK
  rw [List.any_eq_true]
  constructor
  · rintro ⟨x, hx, e⟩; have : x = k := by simpa using e
    subst this; exact hx
  · intro h; exact ⟨k, h, by simp⟩
theorem look_hasK (l : List ByteArray) (k : ByteArray) : (look k (namesM l)).getD (.bool false) = .bool (hasK l k) := by
  cases h : hasK l k with
  | true => rw [look_names_mem (hasK_iff.1 h)]; rfl
  | false =>
    rw [look_names fun hm => by rw [hasK_iff.2 hm] at h; cases h]; rfl
set_option maxHeartbeats 1000000 in
set_option maxRecDepth 100000 in
theorem meets_fn {w : World} {kb b3 : Nat} {ks : List ByteArray} {A' : Option Addr} {n c' : Nat} {g : Bool} (key : ByteArray) (hM : MapIs w kb (namesM ks)) (h3 : w.cell? ⟨b3, 0, none⟩ = some (.map (some kb))) :
    Calls Tryz.prog 137 #[.agg #[.string key, .slice A' n c', .bool g], .pointer (some ⟨b3, 0, none⟩)] w fun e w' => e = .returned (.bool (hasK ks key)) ∧ Fr No w w' := by
  obtain ⟨W, hW⟩ : ∃ W, W = w.alloc (.cells #[.string key, .slice A' n c', .bool g] 117) := ⟨_, rfl⟩
  have hfW : Fr No w W := by rw [hW]; exact (Fr.refl No w).alloc _
  have hbW : W.heap[w.heap.size]? = some (.cells #[.string key, .slice A' n c', .bool g] 117 (0, 0)) := by rw [hW]; exact heap_alloc_new w _
  have k0 := blk_cell hbW 0
  simp at k0
  have c3 := hfW.cell h3 (fun f => f)
  have hlook := (run_map_look (P := Tryz.prog) (hM.stab (hfW.block _ hM.lt (fun f => f))) 139 9 4 Tryz.underlying139 Tryz.underlying9 (.bool false) (zero_bool W) key).1
  rw [look_hasK] at hlook
  rw [hW] at c3 hlook k0 hfW
  have H := Lib.hid hfW
  clear hfW hbW hM h3 hW
  go_enter Tryz.func137, Tryz.ntmps137
  go_wp2_with fail
  go_ret
  exact ⟨rfl, H.out⟩
set_option maxHeartbeats 1000000 in
set_option maxRecDepth 100000 in
theorem meets_ok {w : World} {F : Nat → Prop} {xb kb : Nat} {base : Int} {ws : List Wr} {ks : List ByteArray} (hT : TxAt w F xb base ws) (hM : MapIs w kb (namesM ks)) (hl : ws.length ≤ 1000000) (hk : ∀ x ∈ ws, x.key.size ≤ 1000000000 ∧ x.row.length ≤ 1000000000) :
    Calls Tryz.prog 73 #[.pointer (some ⟨xb, 0, none⟩), .map (some kb)] w fun e w' => e = .returned (.bool (ws.any fun x => hasK ks x.key)) ∧ Fr No w w' := by
  obtain ⟨W, hW⟩ : ∃ W, W = w.alloc (.cells #[.map (some kb)] 139) := ⟨_, rfl⟩
  have hfW : Fr No w W := by rw [hW]; exact (Fr.refl No w).alloc _
  have c3 : W.cell? ⟨w.heap.size, 0, none⟩ = some (.map (some kb)) := by rw [hW]; simp
  have hwr := tx_writes (hT.fr0 hfW) hl hk
  have hMW : MapIs W kb (namesM ks) := hM.stab (hfW.block _ hM.lt (fun f => f))
  have HW := Lib.hid (And.intro hwr (And.intro hfW (And.intro hMW c3)))
  clear hwr hfW hT hk c3 hM hMW
  go_enter Tryz.func73, Tryz.ntmps73
  go_wp2_with fail
  rw [← hW]
  clear hW
  refine HW.out.1.mono ?_
  rintro e1 w1 ⟨A1, c1, rfl, ho1, hf1⟩
  have hcon := contains_ok 137 #[.pointer (some ⟨w.heap.size, 0, none⟩)] (fun x => hasK ks x.key) (c := c1) ho1.rd.2.2.wrO (by omega) Tryz.call137
    (fun i hi A' c' w' hf' => meets_fn ws[i].key ((HW.out.2.2.1.stab (hf1.block _ HW.out.2.2.1.lt (fun f => f))).stab (hf'.block _ (Nat.lt_of_lt_of_le HW.out.2.2.1.lt hf1.size) (fun f => f))) (hf'.cell (hf1.cell HW.out.2.2.2 (fun f => f)) (fun f => f)))
  have HC := Lib.hid (And.intro hcon (HW.out.2.1.trans (hf1.mono fun _ _ f => f.elim)))
  clear hcon ho1 hf1
  go_wp2_with fail
  refine HC.out.1.mono ?_
  rintro e2 w2 ⟨rfl, hf2⟩
  have HF := Lib.hid (HC.out.2.trans (hf2.mono fun _ _ f => f.elim))
  clear hf2
  go_wp2_with fail
  go_ret
  exact ⟨rfl, HF.out⟩
end Go.Proofs.YtlmhphejgahfbaaGreatDoor
/- Layer 15 (ledger): what Form keeps, in plain words. -/
set_option linter.unusedVariables false
set_option linter.unusedSimpArgs false
namespace Go.Proofs.YtlmhphejgahfbaaGreatDoor

section
variable {L : Led} {ids : List Int} {k : Nat}
/-- Would it stand in another's way? -/
def Led.bars (L : Led) (x : LTx) (ws : List Wr) : Bool := (x.ws.any fun y => decide (x.base < L.s.last y.key)) || x.ws.any fun y => hasK (ws.map Wr.key) y.key
theorem hasK_map (ws : List Wr) (k : ByteArray) : hasK (ws.map Wr.key) k = ws.any fun y => decide (y.key = k) := by
  unfold hasK; rw [List.any_map]; rfl
theorem Led.bars_eq (x : LTx) (ws : List Wr) : (L.late x || x.ws.any fun w => ws.any fun y => decide (y.key = w.key)) = L.bars x ws := by
  unfold Led.bars Led.late
  simp only [hasK_map]
theorem getD_at (hk : k < ids.length) : ids.getD k 0 = ids[k] := by simp [List.getD_eq_getElem?_getD, hk]
theorem formN_none (hk : k < ids.length) (h : L.find ids[k] = none) : L.formN ids (k + 1) = ((L.formN ids k).1 ++ [6], (L.formN ids k).2) := by
  show L.formStep _ _ _ = _
  unfold Led.formStep
  rw [getD_at hk, h]
theorem formN_seen {x : LTx} (hk : k < ids.length) (h : L.find ids[k] = some x) (hs : ids[k] ∈ ids.take k) : L.formN ids (k + 1) = ((L.formN ids k).1 ++ [6], (L.formN ids k).2) := by
  show L.formStep _ _ _ = _
  unfold Led.formStep
  rw [getD_at hk, h]
  simp only [if_pos hs]
theorem formN_bars {x : LTx} (hk : k < ids.length) (h : L.find ids[k] = some x) (hs : ¬ ids[k] ∈ ids.take k) (hb : L.bars x (L.formN ids k).2 = true) : L.formN ids (k + 1) = ((L.formN ids k).1 ++ [7], (L.formN ids k).2) := by
  show L.formStep _ _ _ = _
  unfold Led.formStep
  rw [getD_at hk, h]
  simp only [if_neg hs]
  rw [Led.bars_eq, if_pos hb]
theorem formN_ok {x : LTx} (hk : k < ids.length) (h : L.find ids[k] = some x) (hs : ¬ ids[k] ∈ ids.take k) (hb : L.bars x (L.formN ids k).2 = false) : L.formN ids (k + 1) = ((L.formN ids k).1 ++ [0], (L.formN ids k).2 ++ x.ws) := by
  show L.formStep _ _ _ = _
  unfold Led.formStep
  rw [getD_at hk, h]
  simp only [if_neg hs]
  rw [Led.bars_eq, if_neg (by rw [hb]; decide)]
theorem formN_cases (hk : k < ids.length) : (∃ e, (e = 6 ∨ e = 7) ∧ L.formN ids (k + 1) = ((L.formN ids k).1 ++ [e], (L.formN ids k).2)) ∨
    ∃ x, L.find ids[k] = some x ∧ L.bars x (L.formN ids k).2 = false ∧ L.formN ids (k + 1) = ((L.formN ids k).1 ++ [0], (L.formN ids k).2 ++ x.ws) := by
  cases h : L.find ids[k] with
  | none => exact .inl ⟨6, .inl rfl, formN_none hk h⟩
  | some x =>
    by_cases hs : ids[k] ∈ ids.take k
    · exact .inl ⟨6, .inl rfl, formN_seen hk h hs⟩
    · cases hb : L.bars x (L.formN ids k).2 with
      | true => exact .inl ⟨7, .inr rfl, formN_bars hk h hs hb⟩
      | false => exact .inr ⟨x, rfl, hb, formN_ok hk h hs hb⟩
theorem formN_len (hk : k ≤ ids.length) : (L.formN ids k).1.length = k := by
  induction k with
  | zero => rfl
  | succ k ih =>
    have := ih (by omega)
    rcases formN_cases (L := L) (show k < ids.length by omega) with ⟨e, _, h⟩ | ⟨x, _, _, h⟩ <;> rw [h] <;> simp [this]
theorem formN_few {m : Nat} (hw : ∀ id x, L.find id = some x → x.ws.length ≤ m) (hk : k ≤ ids.length) : (L.formN ids k).2.length ≤ m * k := by
  induction k with
  | zero => exact Nat.zero_le _
  | succ k ih =>
    have h0 := ih (by omega)
    rcases formN_cases (L := L) (show k < ids.length by omega) with ⟨e, _, h⟩ | ⟨x, hx, _, h⟩
    · rw [h, Nat.mul_add]; dsimp only; omega
    · rw [h, Nat.mul_add]
      have := hw _ x hx
      dsimp only
      rw [List.length_append]
      omega
theorem bars_no {x : LTx} {ws : List Wr} (h : L.bars x ws = false) : ∀ y ∈ x.ws, y.key ∉ ws.map Wr.key := by
  unfold Led.bars at h
  rw [Bool.or_eq_false_iff] at h
  intro y hy hm
  have : (x.ws.any fun y => hasK (ws.map Wr.key) y.key) = true := List.any_eq_true.2 ⟨y, hy, hasK_iff.2 hm⟩
  rw [h.2] at this
  cases this
theorem rising_nodup {l : List ByteArray} (h : Rising l) : l.Nodup := h.imp fun hk e => by rw [e, kl_irrefl] at hk; cases hk
theorem formN_nodup (hr : ∀ id x, L.find id = some x → Rising (x.ws.map Wr.key)) (hk : k ≤ ids.length) : ((L.formN ids k).2.map Wr.key).Nodup := by
  induction k with
  | zero => exact List.nodup_nil
  | succ k ih =>
    have h0 := ih (by omega)
    rcases formN_cases (L := L) (show k < ids.length by omega) with ⟨e, _, h⟩ | ⟨x, hx, hb, h⟩
    · rw [h]; exact h0
    · rw [h]
      dsimp only
      rw [List.map_append]
      refine List.nodup_append.2 ⟨h0, rising_nodup (hr _ x hx), fun a ha b hb' => ?_⟩
      rintro rfl
      obtain ⟨y, hy, e⟩ := List.mem_map.1 hb'
      exact bars_no hb y hy (e ▸ ha)
theorem formN_mem {P : Wr → Prop} (hw : ∀ id x, L.find id = some x → ∀ y ∈ x.ws, P y) (hk : k ≤ ids.length) : ∀ y ∈ (L.formN ids k).2, P y := by
  induction k with
  | zero => intro y hy; cases hy
  | succ k ih =>
    have h0 := ih (by omega)
    rcases formN_cases (L := L) (show k < ids.length by omega) with ⟨e, _, h⟩ | ⟨x, hx, hb, h⟩
    · rw [h]; exact h0
    · rw [h]
      intro y hy
      rcases List.mem_append.1 hy with hy | hy
      · exact h0 y hy
      · exact hw _ x hx y hy
end
end Go.Proofs.YtlmhphejgahfbaaGreatDoor
/- Values: value.Right; table.check, Check, CheckKey. -/
set_option linter.unusedVariables false
set_option linter.unusedSimpArgs false
namespace Go.Proofs.YtlmhphejgahfbaaGreatDoor
open Go.RowKit

abbrev Val := UInt8 × Int × ByteArray
abbrev tVal : Ty Val := Ty.pair Ty.u8 (Ty.pair (Ty.int .i64) Ty.str)
/-- A value as an aggregate. -/
def vA (v : Val) : Value := .agg #[.int .u8 (v.1.toNat : Int), .int .i64 v.2.1, .string v.2.2]
/-- A number as a value. -/
def vI (n : Int) : Val := (1, n, ⟨#[]⟩)
theorem val_at {w : World} {F : Nat → Prop} {A : Option Addr} {l : List Val} (h : Rd tVal w F A l) {i : Nat} (hi : i < l.length) :
    ∃ ad, A = some ad ∧ w.cell? (ad.add (i * 3)) = some (.int .u8 (l[i].1.toNat : Int)) ∧ w.cell? ⟨(ad.add (i * 3)).block, (ad.add (i * 3)).off + 1, none⟩ = some (.int .i64 l[i].2.1) ∧ w.cell? ⟨(ad.add (i * 3)).block, (ad.add (i * 3)).off + 2, none⟩ = some (.string l[i].2.2) := by
  obtain ⟨ad, cs, e, hk, h0, h1⟩ := h.get' hi (by decide)
  obtain ⟨c1, c2, rfl, k1, k2⟩ := hk
  obtain rfl : c1 = _ := k1
  obtain ⟨c3, c4, rfl, k3, k4⟩ := k2
  obtain rfl : c3 = _ := k3
  obtain rfl : c4 = _ := k4
  exact ⟨ad, e, h0 _ rfl, h1 1 _ (by decide) rfl, h1 2 _ (by decide) rfl⟩

/-- May a value be? -/
def valRight (v : Val) : Prop := (v.1 = 0 ∧ v.2.1 = 0 ∧ v.2.2 = ⟨#[]⟩) ∨ (v.1 = 1 ∧ v.2.2 = ⟨#[]⟩) ∨ (v.1 = 2 ∧ v.2.1 = 0 ∧ v.2.2.size ≤ 200)
/-- Does a value fit a column? -/
def valFits (c : Col) (v : Val) : Prop := valRight v ∧ ((v.1 = 0 ∧ c.2.2 = true) ∨ v.1 = c.2.1)
theorem valFits_int {c : Col} (n : Int) (h : c.2.1 = 1) : valFits c (vI n) := ⟨.inr (.inl ⟨rfl, rfl⟩), .inr h.symm⟩

set_option maxHeartbeats 400000 in
set_option maxRecDepth 100000 in
theorem val_right {w : World} (v : Val) (h : valRight v) : Calls Tryz.prog 162 #[vA v] w fun e w' => e = .returned (.bool true) ∧ Fr No w w' := by
  have hw := Lib.hid (Fr.refl No w)
  obtain ⟨k, n, s⟩ := v
  unfold vA
  rcases h with ⟨h1, h2, h3⟩ | ⟨h1, h3⟩ | ⟨h1, h2, h3⟩
  · obtain rfl : k = 0 := h1
    obtain rfl : n = 0 := h2
    obtain rfl : s = ⟨#[]⟩ := h3
    go_enter Tryz.func162, Tryz.ntmps162
    go_wp2_with fail
    go_ret
    exact ⟨rfl, by repeat (first | exact hw.out | apply Fr.alloc | apply Fr.drew | apply Fr.drewN)⟩
  · obtain rfl : k = 1 := h1
    obtain rfl : s = ⟨#[]⟩ := h3
    go_enter Tryz.func162, Tryz.ntmps162
    go_wp2_with fail
    go_ret
    exact ⟨rfl, by repeat (first | exact hw.out | apply Fr.alloc | apply Fr.drew | apply Fr.drewN)⟩
  · obtain rfl : k = 2 := h1
    obtain rfl : n = 0 := h2
    have hs : (s.size : Int) ≤ 200 := by have : s.size ≤ 200 := h3; omega
    clear h3
    go_enter Tryz.func162, Tryz.ntmps162
    go_wp2_with fail
    go_ret
    exact ⟨rfl, by repeat (first | exact hw.out | apply Fr.alloc | apply Fr.drew | apply Fr.drewN)⟩

theorem u8_ne {a b : UInt8} (h : a ≠ b) : (a.toNat : Int) ≠ (b.toNat : Int) := fun e => h (UInt8.toNat_inj.1 (by omega))
set_option maxHeartbeats 1000000 in
set_option maxRecDepth 100000 in
theorem check_ok {w : World} {F G : Nat → Prop} {A B : Option Addr} {m c n c' : Nat} {cols : List Col} {row : List Val} (hc : Rd tCol w F A cols) (hr : Rd tVal w G B row) (hm : m = cols.length) (hn : n = row.length) (hl : row.length = cols.length)
    (hf : ∀ i (h : i < row.length) (h' : i < cols.length), valFits cols[i] row[i]) :
    Calls Tryz.prog 98 #[.slice A m c, .slice B n c'] w fun e w' => e = .returned (.int .i64 0) ∧ Fr No w w' := by
  subst hm hn
  have hl63 : (row.length : Int) ≤ 9223372036854775807 := by have := hr.1; omega
  have H := Lib.hid (And.intro hc (And.intro hr hf))
  have HV := Lib.hid fun (w : World) (v : Val) (h : valRight v) => val_right (w := w) v h
  rw [← hl]
  have HL := Lib.hid hl
  clear hc hr hf hl
  go_enter Tryz.func98, Tryz.ntmps98
  go_wp2_with fail
  go_loopw [15] (fun iv wr => ∃ k : Nat, k ≤ row.length ∧ iv = .int .i64 (k : Int) ∧ Hid (Fr No w wr)) (fun iv _ => row.length - (intOf iv).toNat)
  case atStart => exact ⟨0, Nat.zero_le _, rfl, Fr.refl No w⟩
  case round =>
    obtain ⟨k, hk, rfl, I⟩ := hrel
    have hk0 : (0 : Int) ≤ (k : Int) := Int.natCast_nonneg _
    by_cases hlt : k < row.length
    · have hk1 : (k : Int) < (row.length : Int) := by omega
      have hlt' : k < cols.length := by have := HL.out; omega
      obtain ⟨ad, rfl, x0, x1, x2⟩ := val_at (H.out.2.1.fr0 I.out) hlt
      obtain ⟨ad', rfl, y0, y1, y2⟩ := col_at (H.out.1.fr0 (w' := wr.alloc (.cells #[.int .u8 (row[k].1.toNat : Int), .int .i64 row[k].2.1, .string row[k].2.2] 35)) (I.out.alloc _)) hlt'
      obtain ⟨f1, f2⟩ := H.out.2.2 k hlt hlt'
      obtain ⟨v, hv⟩ : ∃ v, row[k] = v := ⟨_, rfl⟩
      obtain ⟨cl, hcl⟩ : ∃ cl, cols[k] = cl := ⟨_, rfl⟩
      rw [hv] at x0 x1 x2 y0 y1 y2 f1 f2
      rw [hcl] at y0 y1 y2 f2
      clear hv hcl
      obtain ⟨vk, vn, vs⟩ := v
      obtain ⟨cn, ck, cb⟩ := cl
      dsimp only at x0 x1 x2 y0 y1 y2 f2
      have HF := Lib.hid f1
      have hcase : (vk = 0 ∧ cb = true) ∨ (vk = 0 ∧ ck = 0 ∧ cb = false) ∨ (vk = 1 ∧ ck = 1) ∨ (vk = 2 ∧ ck = 2) := by
        rcases f2 with ⟨e1, e2⟩ | e1
        · exact .inl ⟨e1, e2⟩
        · have e1' : vk = ck := e1
          rcases f1 with ⟨h1, _⟩ | ⟨h1, _⟩ | ⟨h1, _⟩
          · have h1' : vk = 0 := h1
            cases cb with
            | true => exact .inl ⟨h1', rfl⟩
            | false => exact .inr (.inl ⟨h1', e1'.symm.trans h1', rfl⟩)
          · exact .inr (.inr (.inl ⟨h1, e1'.symm.trans h1⟩))
          · exact .inr (.inr (.inr ⟨h1, e1'.symm.trans h1⟩))
      clear f1 f2
      rcases hcase with ⟨rfl, rfl⟩ | ⟨rfl, rfl, rfl⟩ | ⟨rfl, rfl⟩ | ⟨rfl, rfl⟩
      · skip
        simp only [show ((((0 : UInt8)).toNat : Nat) : Int) = 0 from rfl] at x0 y0 y1 y2
        go_wp2_with fail
        refine (HV.out _ (0, vn, vs) HF.out).mono ?_
        rintro e w3 ⟨rfl, hf3⟩
        have z0 := blk_cell (hf3.blk (blk_two1 wr _ _) (fun f => f)) 0
        have z1 := blk_cell (hf3.blk (blk_two2 wr _ _) (fun f => f)) 1
        have z2 := blk_cell (hf3.blk (blk_two2 wr _ _) (fun f => f)) 2
        simp at z0 z1 z2
        have H3 := Lib.hid (I.out.next (((Fr.refl No wr).alloc _).alloc _ |>.next hf3 (fun _ _ f => f.elim)) (fun _ _ f => f.elim))
        clear hf3
        go_wp2_with fail
        go_roundw
        case rel => exact ⟨k + 1, by omega, by go_num, H3.out⟩
        case measure => simp [intOf]; omega
      · skip
        simp only [show ((((0 : UInt8)).toNat : Nat) : Int) = 0 from rfl] at x0 y0 y1 y2
        go_wp2_with fail
        refine (HV.out _ (0, vn, vs) HF.out).mono ?_
        rintro e w3 ⟨rfl, hf3⟩
        have z0 := blk_cell (hf3.blk (blk_two1 wr _ _) (fun f => f)) 0
        have z1 := blk_cell (hf3.blk (blk_two2 wr _ _) (fun f => f)) 1
        have z2 := blk_cell (hf3.blk (blk_two2 wr _ _) (fun f => f)) 2
        simp at z0 z1 z2
        have H3 := Lib.hid (I.out.next (((Fr.refl No wr).alloc _).alloc _ |>.next hf3 (fun _ _ f => f.elim)) (fun _ _ f => f.elim))
        clear hf3
        go_wp2_with fail
        go_roundw
        case rel => exact ⟨k + 1, by omega, by go_num, H3.out⟩
        case measure => simp [intOf]; omega
      · skip
        simp only [show ((((1 : UInt8)).toNat : Nat) : Int) = 1 from rfl] at x0 y0 y1 y2
        go_wp2_with fail
        refine (HV.out _ (1, vn, vs) HF.out).mono ?_
        rintro e w3 ⟨rfl, hf3⟩
        have z0 := blk_cell (hf3.blk (blk_two1 wr _ _) (fun f => f)) 0
        have z1 := blk_cell (hf3.blk (blk_two2 wr _ _) (fun f => f)) 1
        have z2 := blk_cell (hf3.blk (blk_two2 wr _ _) (fun f => f)) 2
        simp at z0 z1 z2
        have H3 := Lib.hid (I.out.next (((Fr.refl No wr).alloc _).alloc _ |>.next hf3 (fun _ _ f => f.elim)) (fun _ _ f => f.elim))
        clear hf3
        go_wp2_with fail
        go_roundw
        case rel => exact ⟨k + 1, by omega, by go_num, H3.out⟩
        case measure => simp [intOf]; omega
      · skip
        simp only [show ((((2 : UInt8)).toNat : Nat) : Int) = 2 from rfl] at x0 y0 y1 y2
        go_wp2_with fail
        refine (HV.out _ (2, vn, vs) HF.out).mono ?_
        rintro e w3 ⟨rfl, hf3⟩
        have z0 := blk_cell (hf3.blk (blk_two1 wr _ _) (fun f => f)) 0
        have z1 := blk_cell (hf3.blk (blk_two2 wr _ _) (fun f => f)) 1
        have z2 := blk_cell (hf3.blk (blk_two2 wr _ _) (fun f => f)) 2
        simp at z0 z1 z2
        have H3 := Lib.hid (I.out.next (((Fr.refl No wr).alloc _).alloc _ |>.next hf3 (fun _ _ f => f.elim)) (fun _ _ f => f.elim))
        clear hf3
        go_wp2_with fail
        go_roundw
        case rel => exact ⟨k + 1, by omega, by go_num, H3.out⟩
        case measure => simp [intOf]; omega
    · obtain rfl : k = row.length := by omega
      go_wp2_with fail
      go_ret
      exact ⟨rfl, I.out⟩
end Go.Proofs.YtlmhphejgahfbaaGreatDoor
