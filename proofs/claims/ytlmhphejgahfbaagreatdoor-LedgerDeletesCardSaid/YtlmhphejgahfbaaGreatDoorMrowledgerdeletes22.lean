/- Texts of this claim, one behind the other: Late, SpecF, BytesN. -/
import Derived.Test.YtlmhphejgahfbaaGreatDoorMrowledgerdeletes20
import Derived.Test.YtlmhphejgahfbaaGreatDoorMrowledgerdeletes21
import Derived.Test.YtlmhphejgahfbaaGreatDoorMrowledgerdeletes19
import Derived.Test.YtlmhphejgahfbaaGreatDoorMrowledgerdeletes18
import Derived.Deep.RegionHeld3
import Derived.Test.YtlmhphejgahfbaaGreatDoorMrowledgerdeletes6
import Derived.Test.YtlmhphejgahfbaaGreatDoorMrowledgerdeletes8
/- Layer 14 (tx): Late. -/
set_option linter.unusedVariables false
set_option linter.unusedSimpArgs false
namespace Go.Proofs.YtlmhphejgahfbaaGreatDoor
open Go.RowKit

theorem Rd.wrO {w : World} {F : Nat → Prop} {A : Option Addr} {ws : List Wr} (h : Rd tWrO w F A ws) : Rd tWr w F A ws := by
  obtain ⟨h0, cs, h1, h2⟩ := h
  refine ⟨h0, cs, ?_, h2⟩
  clear h2 h0
  induction ws generalizing cs with
  | nil => exact h1
  | cons x ws ih =>
    obtain ⟨c, d, rfl, hx, hd⟩ := h1
    obtain ⟨A', c', rfl, ho⟩ := tWrO_open hx
    exact ⟨_, d, rfl, tWr_mk (a := x.key) (r := x.row) (g := x.gone) ho.rd.2.1 ho.rd.2.2, ih d hd⟩

set_option maxHeartbeats 1000000 in
set_option maxRecDepth 100000 in
/-- slices.IndexFunc, of a function that only reads: is there one of which it says yes? -/
theorem index_ok (g : Nat) (caps : Array Value) (p : Wr → Bool) {w : World} {F : Nat → Prop} {A : Option Addr} {c : Nat} {ws : List Wr} (h : Rd tWr w F A ws) (hl : ws.length ≤ 1000000000)
    (he : ∀ args w, Sem.run Tryz.prog (callFunc g args) w = .ok (.enter g args) w)
    (hg : ∀ i (hi : i < ws.length) A' c' w', Fr No w w' → Calls Tryz.prog g (#[.agg #[.string ws[i].key, .slice A' ws[i].row.length c', .bool ws[i].gone]] ++ caps) w' fun e w'' => e = .returned (.bool (p ws[i])) ∧ Fr No w' w'') :
    Calls Tryz.prog 180 #[.slice A ws.length c, .func (.func g) #[] caps] w fun e w' => ∃ r : Int, e = .returned (.int .i64 r) ∧ decide (0 ≤ r) = ws.any p ∧ Fr No w w' := by
  have HG := Lib.hid hg
  have H := Lib.hid h
  have hli : (ws.length : Int) ≤ 1000000000 := by omega
  clear hg h
  go_enter Tryz.func180, Tryz.ntmps180
  go_wp2_with fail
  go_loopw [8] (fun i wr => ∃ k : Nat, k ≤ ws.length ∧ i = .int .i64 k ∧ Hid ((ws.take k).any p = false ∧ Fr No w wr)) (fun i _ => ws.length - (intOf i).toNat)
  case atStart => exact ⟨0, Nat.zero_le _, rfl, rfl, Fr.refl _ _⟩
  case round =>
    obtain ⟨k, hk, rfl, I⟩ := hrel
    have hq0 : (0 : Int) ≤ (k : Int) := Int.natCast_nonneg _
    by_cases hlt : k < ws.length
    · have hq1 : (k : Int) < (ws.length : Int) := by omega
      obtain ⟨ad, A', c', rfl, x0, x1, x2, _, _⟩ := wrr_at (H.out.fr0 I.out.2) hlt
      have hcall := HG.out k hlt A' c' wr I.out.2
      have hany : (ws.take (k + 1)).any p = p ws[k] := by rw [List.take_succ_eq_append_getElem hlt, List.any_append, I.out.1]; simp
      have hall : p ws[k] = true → ws.any p = true := fun h => List.any_eq_true.2 ⟨_, List.getElem_mem hlt, h⟩
      obtain ⟨x, hx⟩ : ∃ x, ws[k] = x := ⟨_, rfl⟩
      rw [hx] at x0 x1 x2 hany hall
      simp only [hx] at hcall
      have HC := Lib.hid (And.intro hcall (And.intro hany hall))
      clear hcall hany hall hx
      cases hp : p x with
      | true =>
        go_wp2_with (refine HC.out.1.mono ?_; rintro e w' ⟨rfl, hf'⟩; rw [hp]; have HF := Lib.hid hf'; clear hf')
        go_ret
        exact ⟨_, rfl, by rw [HC.out.2.2 hp]; exact decide_eq_true hq0, I.out.2.trans (HF.out.mono fun _ _ f => f.elim)⟩
      | false =>
        go_wp2_with (refine HC.out.1.mono ?_; rintro e w' ⟨rfl, hf'⟩; rw [hp]; have HF := Lib.hid hf'; clear hf')
        go_roundw
        case rel => exact ⟨k + 1, by omega, by go_num, by rw [HC.out.2.1]; exact hp, I.out.2.trans (HF.out.mono fun _ _ f => f.elim)⟩
        case measure => simp [intOf]; omega
    · obtain rfl : k = ws.length := by omega
      have hI := I.out.1
      rw [List.take_length] at hI
      have HI := Lib.hid hI
      clear hI
      go_wp2_with fail
      go_ret
      exact ⟨_, rfl, by rw [HI.out]; rfl, I.out.2⟩
theorem contains_ok (g : Nat) (caps : Array Value) (p : Wr → Bool) {w : World} {F : Nat → Prop} {A : Option Addr} {c : Nat} {ws : List Wr} (h : Rd tWr w F A ws) (hl : ws.length ≤ 1000000000)
    (he : ∀ args w, Sem.run Tryz.prog (callFunc g args) w = .ok (.enter g args) w)
    (hg : ∀ i (hi : i < ws.length) A' c' w', Fr No w w' → Calls Tryz.prog g (#[.agg #[.string ws[i].key, .slice A' ws[i].row.length c', .bool ws[i].gone]] ++ caps) w' fun e w'' => e = .returned (.bool (p ws[i])) ∧ Fr No w' w'') :
    Calls Tryz.prog 134 #[.slice A ws.length c, .func (.func g) #[] caps] w fun e w' => e = .returned (.bool (ws.any p)) ∧ Fr No w w' := by
  have H := Lib.hid (index_ok g caps p (c := c) h hl he hg)
  clear h hg
  go_enter Tryz.func134, Tryz.ntmps134
  go_wp2_with fail
  refine H.out.mono ?_
  rintro e1 w1 ⟨r, rfl, hr, hf⟩
  have HF := Lib.hid (And.intro hr hf)
  clear hr hf
  go_wp2_with fail
  go_ret
  refine ⟨?_, HF.out.2⟩
  rw [← HF.out.1]
  first | rfl | simp

set_option maxHeartbeats 1000000 in
set_option maxRecDepth 100000 in
theorem late_fn {w : World} {FX FS : Nat → Prop} {xb sb b2 b3 : Nat} {base : Int} {ws : List Wr} {s : Sto} {A' : Option Addr} {n c' : Nat} {g : Bool} (key : ByteArray) (hT : TxAt w FX xb base ws) (hS : StoreAt w FS sb s) (h3 : w.cell? ⟨b3, 0, none⟩ = some (.pointer (some ⟨sb, 0, none⟩))) (h2 : w.cell? ⟨b2, 0, none⟩ = some (.pointer (some ⟨xb, 0, none⟩))) :
    Calls Tryz.prog 135 #[.agg #[.string key, .slice A' n c', .bool g], .pointer (some ⟨b3, 0, none⟩), .pointer (some ⟨b2, 0, none⟩)] w fun e w' => e = .returned (.bool (decide (base < s.last key))) ∧ Fr No w w' := by
  obtain ⟨W, hW⟩ : ∃ W, W = w.alloc (.cells #[.string key, .slice A' n c', .bool g] 117) := ⟨_, rfl⟩
  have hfW : Fr No w W := by rw [hW]; exact (Fr.refl No w).alloc _
  have hbW : W.heap[w.heap.size]? = some (.cells #[.string key, .slice A' n c', .bool g] 117 (0, 0)) := by rw [hW]; exact heap_alloc_new w _
  have hx : W.cell? ⟨xb, 0, none⟩ = some (.int .i64 base) := by
    obtain ⟨_, mb, l, _, _, h4, _, _⟩ := hT
    have := blk_cell (hfW.blk h4 (fun f => f)) 0
    simpa using this
  have k0 := blk_cell hbW 0
  simp at k0
  have c3 := hfW.cell h3 (fun f => f)
  have c2 := hfW.cell h2 (fun f => f)
  have hlast := fun w' (f : Fr No W w') => store_last ((hS.fr0 hfW).fr0 f) key
  have H := Lib.hid (And.intro hlast hfW)
  clear hT hS h3 h2 hfW hbW hlast
  go_enter Tryz.func135, Tryz.ntmps135
  go_wp2_with fail
  rw [← hW]
  clear hW
  go_region_held3 (fun w' => w'.cell? ⟨b3, 0, none⟩ = some (.pointer (some ⟨sb, 0, none⟩)) ∧ w'.cell? ⟨w.heap.size, 0, none⟩ = some (.string key) ∧ w'.cell? ⟨b2, 0, none⟩ = some (.pointer (some ⟨xb, 0, none⟩)) ∧ w'.cell? ⟨xb, 0, none⟩ = some (.int .i64 base))
    (exact ⟨c3, k0, c2, hx⟩)
    (first
      | (go_at_call 136; refine (H.out.1 _ (by repeat (first | exact Fr.refl _ _ | apply Fr.drew | apply Fr.drewN))).mono ?_; rintro e7 w7 ⟨rfl, rfl⟩))
  all_goals
    go_wp2_with fail
    go_ret
    exact ⟨by simp, H.out.2.trans (Fr.mono (F := No) (by repeat (first | exact Fr.refl _ _ | apply Fr.drew | apply Fr.drewN)) fun _ _ f => f.elim)⟩

set_option maxHeartbeats 1000000 in
set_option maxRecDepth 100000 in
theorem tx_late {w : World} {FX FS : Nat → Prop} {xb sb : Nat} {base : Int} {ws : List Wr} {s : Sto} (hT : TxAt w FX xb base ws) (hS : StoreAt w FS sb s) (hl : ws.length ≤ 1000000) (hk : ∀ x ∈ ws, x.key.size ≤ 1000000000 ∧ x.row.length ≤ 1000000000) :
    Calls Tryz.prog 72 #[.pointer (some ⟨xb, 0, none⟩), .pointer (some ⟨sb, 0, none⟩)] w fun e w' => e = .returned (.bool (ws.any fun x => decide (base < s.last x.key))) ∧ Fr No w w' := by
  obtain ⟨W, hW⟩ : ∃ W, W = (w.alloc (.cells #[.pointer (some ⟨xb, 0, none⟩)] 102)).alloc (.cells #[.pointer (some ⟨sb, 0, none⟩)] 82) := ⟨_, rfl⟩
  have hfW : Fr No w W := by rw [hW]; exact ((Fr.refl No w).alloc _).alloc _
  have c2 : W.cell? ⟨w.heap.size, 0, none⟩ = some (.pointer (some ⟨xb, 0, none⟩)) := by rw [hW]; exact cell_two1 _ _ _ _
  have c3 : W.cell? ⟨w.heap.size + 1, 0, none⟩ = some (.pointer (some ⟨sb, 0, none⟩)) := by rw [hW]; exact cell_two2 _ _ _ _
  have hwr := tx_writes (hT.fr0 hfW) hl hk
  have HW := Lib.hid (And.intro hwr (And.intro hfW (And.intro (hT.fr0 hfW) (And.intro (hS.fr0 hfW) (And.intro c2 c3)))))
  clear hwr hfW hT hS hk c3
  go_enter Tryz.func72, Tryz.ntmps72
  go_wp2_with fail
  rw [← hW]
  clear hW
  refine HW.out.1.mono ?_
  rintro e1 w1 ⟨A1, c1, rfl, ho1, hf1⟩
  have hcon := contains_ok 135 #[.pointer (some ⟨w.heap.size + 1, 0, none⟩), .pointer (some ⟨w.heap.size, 0, none⟩)] (fun x => decide (base < s.last x.key)) (c := c1) ho1.rd.2.2.wrO (by omega) Tryz.call135
    (fun i hi A' c' w' hf' => late_fn ws[i].key ((HW.out.2.2.1.fr0 hf1).fr0 hf') ((HW.out.2.2.2.1.fr0 hf1).fr0 hf') (hf'.cell (hf1.cell HW.out.2.2.2.2.2 (fun f => f)) (fun f => f)) (hf'.cell (hf1.cell HW.out.2.2.2.2.1 (fun f => f)) (fun f => f)))
  have HC := Lib.hid (And.intro hcon (HW.out.2.1.trans (hf1.mono fun _ _ f => f.elim)))
  clear hcon ho1 hf1
  go_wp2_with fail
  refine HC.out.1.mono ?_
  rintro e2 w2 ⟨rfl, hf2⟩
  have HF := Lib.hid (HC.out.2.trans (hf2.mono fun _ _ f => f.elim))
  clear hf2
  go_wp2_with fail
  go_ret
  exact ⟨rfl, HF.out⟩

/-! ### meets -/
theorem look_names_mem {l : List ByteArray} {s : ByteArray} (h : s ∈ l) : look s (namesM l) = some (.bool true) := by
  induction l with
  | nil => cases h
  | cons x l ih =>
    unfold namesM look
    simp only [List.map_cons]
    by_cases e : x = s
    · rw [if_pos e]
    · rw [if_neg e]; exact ih (by rcases List.mem_cons.1 h with h | h; exact absurd h.symm e; exact h)
/-- Is it there? -/
def hasK (l : List ByteArray) (k : ByteArray) : Bool := l.any fun y => decide (y = k)
theorem hasK_iff {l : List ByteArray} {k : ByteArray} : hasK l k = true ↔ k ∈ l := by
  unfold hasK
  rw [List.any_eq_true]
  constructor
  · rintro ⟨x, hx, e⟩; have : x = k := by simpa using e
    subst this; exact hx
  · intro h; exact ⟨k, h, by simp⟩
theorem look_hasK (l : List ByteArray) (k : ByteArray) : (look k (namesM l)).getD (.bool false) = .bool (hasK l k) := by
  cases h : hasK l k with
  | true => rw [look_names_mem (hasK_iff.1 h)]; rfl
  | false =>
    rw [look_names fun hm => by rw [hasK_iff.2 hm] at h; cases h]; rfl
set_option maxHeartbeats 1000000 in
set_option maxRecDepth 100000 in
theorem meets_fn {w : World} {kb b3 : Nat} {ks : List ByteArray} {A' : Option Addr} {n c' : Nat} {g : Bool} (key : ByteArray) (hM : MapIs w kb (namesM ks)) (h3 : w.cell? ⟨b3, 0, none⟩ = some (.map (some kb))) :
    Calls Tryz.prog 137 #[.agg #[.string key, .slice A' n c', .bool g], .pointer (some ⟨b3, 0, none⟩)] w fun e w' => e = .returned (.bool (hasK ks key)) ∧ Fr No w w' := by
  obtain ⟨W, hW⟩ : ∃ W, W = w.alloc (.cells #[.string key, .slice A' n c', .bool g] 117) := ⟨_, rfl⟩
  have hfW : Fr No w W := by rw [hW]; exact (Fr.refl No w).alloc _
  have hbW : W.heap[w.heap.size]? = some (.cells #[.string key, .slice A' n c', .bool g] 117 (0, 0)) := by rw [hW]; exact heap_alloc_new w _
  have k0 := blk_cell hbW 0
  simp at k0
  have c3 := hfW.cell h3 (fun f => f)
  have hlook := (run_map_look (P := Tryz.prog) (hM.stab (hfW.block _ hM.lt (fun f => f))) 139 9 4 Tryz.underlying139 Tryz.underlying9 (.bool false) (zero_bool W) key).1
  rw [look_hasK] at hlook
  rw [hW] at c3 hlook k0 hfW
  have H := Lib.hid hfW
  clear hfW hbW hM h3 hW
  go_enter Tryz.func137, Tryz.ntmps137
  go_wp2_with fail
  go_ret
  exact ⟨rfl, H.out⟩
set_option maxHeartbeats 1000000 in
set_option maxRecDepth 100000 in
theorem meets_ok {w : World} {F : Nat → Prop} {xb kb : Nat} {base : Int} {ws : List Wr} {ks : List ByteArray} (hT : TxAt w F xb base ws) (hM : MapIs w kb (namesM ks)) (hl : ws.length ≤ 1000000) (hk : ∀ x ∈ ws, x.key.size ≤ 1000000000 ∧ x.row.length ≤ 1000000000) :
    Calls Tryz.prog 73 #[.pointer (some ⟨xb, 0, none⟩), .map (some kb)] w fun e w' => e = .returned (.bool (ws.any fun x => hasK ks x.key)) ∧ Fr No w w' := by
  obtain ⟨W, hW⟩ : ∃ W, W = w.alloc (.cells #[.map (some kb)] 139) := ⟨_, rfl⟩
  have hfW : Fr No w W := by rw [hW]; exact (Fr.refl No w).alloc _
  have c3 : W.cell? ⟨w.heap.size, 0, none⟩ = some (.map (some kb)) := by rw [hW]; simp
  have hwr := tx_writes (hT.fr0 hfW) hl hk
  have hMW : MapIs W kb (namesM ks) := hM.stab (hfW.block _ hM.lt (fun f => f))
  have HW := Lib.hid (And.intro hwr (And.intro hfW (And.intro hMW c3)))
  clear hwr hfW hT hk c3 hM hMW
  go_enter Tryz.func73, Tryz.ntmps73
  go_wp2_with fail
  rw [← hW]
  clear hW
  refine HW.out.1.mono ?_
  rintro e1 w1 ⟨A1, c1, rfl, ho1, hf1⟩
  have hcon := contains_ok 137 #[.pointer (some ⟨w.heap.size, 0, none⟩)] (fun x => hasK ks x.key) (c := c1) ho1.rd.2.2.wrO (by omega) Tryz.call137
    (fun i hi A' c' w' hf' => meets_fn ws[i].key ((HW.out.2.2.1.stab (hf1.block _ HW.out.2.2.1.lt (fun f => f))).stab (hf'.block _ (Nat.lt_of_lt_of_le HW.out.2.2.1.lt hf1.size) (fun f => f))) (hf'.cell (hf1.cell HW.out.2.2.2 (fun f => f)) (fun f => f)))
  have HC := Lib.hid (And.intro hcon (HW.out.2.1.trans (hf1.mono fun _ _ f => f.elim)))
  clear hcon ho1 hf1
  go_wp2_with fail
  refine HC.out.1.mono ?_
  rintro e2 w2 ⟨rfl, hf2⟩
  have HF := Lib.hid (HC.out.2.trans (hf2.mono fun _ _ f => f.elim))
  clear hf2
  go_wp2_with fail
  go_ret
  exact ⟨rfl, HF.out⟩
end Go.Proofs.YtlmhphejgahfbaaGreatDoor
/- Layer 15 (ledger): what Form keeps, in plain words. -/
set_option linter.unusedVariables false
set_option linter.unusedSimpArgs false
namespace Go.Proofs.YtlmhphejgahfbaaGreatDoor

section
variable {L : Led} {ids : List Int} {k : Nat}
/-- Would it stand in another's way? -/
def Led.bars (L : Led) (x : LTx) (ws : List Wr) : Bool := (x.ws.any fun y => decide (x.base < L.s.last y.key)) || x.ws.any fun y => hasK (ws.map Wr.key) y.key
theorem hasK_map (ws : List Wr) (k : ByteArray) : hasK (ws.map Wr.key) k = ws.any fun y => decide (y.key = k) := by
  unfold hasK; rw [List.any_map]; rfl
theorem Led.bars_eq (x : LTx) (ws : List Wr) : (L.late x || x.ws.any fun w => ws.any fun y => decide (y.key = w.key)) = L.bars x ws := by
  unfold Led.bars Led.late
  simp only [hasK_map]
theorem getD_at (hk : k < ids.length) : ids.getD k 0 = ids[k] := by simp [List.getD_eq_getElem?_getD, hk]
theorem formN_none (hk : k < ids.length) (h : L.find ids[k] = none) : L.formN ids (k + 1) = ((L.formN ids k).1 ++ [6], (L.formN ids k).2) := by
  show L.formStep _ _ _ = _
  unfold Led.formStep
  rw [getD_at hk, h]
theorem formN_seen {x : LTx} (hk : k < ids.length) (h : L.find ids[k] = some x) (hs : ids[k] ∈ ids.take k) : L.formN ids (k + 1) = ((L.formN ids k).1 ++ [6], (L.formN ids k).2) := by
  show L.formStep _ _ _ = _
  unfold Led.formStep
  rw [getD_at hk, h]
  simp only [if_pos hs]
theorem formN_bars {x : LTx} (hk : k < ids.length) (h : L.find ids[k] = some x) (hs : ¬ ids[k] ∈ ids.take k) (hb : L.bars x (L.formN ids k).2 = true) : L.formN ids (k + 1) = ((L.formN ids k).1 ++ [7], (L.formN ids k).2) := by
  show L.formStep _ _ _ = _
  unfold Led.formStep
  rw [getD_at hk, h]
  simp only [if_neg hs]
  rw [Led.bars_eq, if_pos hb]
theorem formN_ok {x : LTx} (hk : k < ids.length) (h : L.find ids[k] = some x) (hs : ¬ ids[k] ∈ ids.take k) (hb : L.bars x (L.formN ids k).2 = false) : L.formN ids (k + 1) = ((L.formN ids k).1 ++ [0], (L.formN ids k).2 ++ x.ws) := by
  show L.formStep _ _ _ = _
  unfold Led.formStep
  rw [getD_at hk, h]
  simp only [if_neg hs]
  rw [Led.bars_eq, if_neg (by rw [hb]; decide)]
theorem formN_cases (hk : k < ids.length) : (∃ e, (e = 6 ∨ e = 7) ∧ L.formN ids (k + 1) = ((L.formN ids k).1 ++ [e], (L.formN ids k).2)) ∨
    ∃ x, L.find ids[k] = some x ∧ L.bars x (L.formN ids k).2 = false ∧ L.formN ids (k + 1) = ((L.formN ids k).1 ++ [0], (L.formN ids k).2 ++ x.ws) := by
  cases h : L.find ids[k] with
  | none => exact .inl ⟨6, .inl rfl, formN_none hk h⟩
  | some x =>
    by_cases hs : ids[k] ∈ ids.take k
    · exact .inl ⟨6, .inl rfl, formN_seen hk h hs⟩
    · cases hb : L.bars x (L.formN ids k).2 with
      | true => exact .inl ⟨7, .inr rfl, formN_bars hk h hs hb⟩
      | false => exact .inr ⟨x, rfl, hb, formN_ok hk h hs hb⟩
theorem formN_len (hk : k ≤ ids.length) : (L.formN ids k).1.length = k := by
  induction k with
  | zero => rfl
  | succ k ih =>
    have := ih (by omega)
    rcases formN_cases (L := L) (show k < ids.length by omega) with ⟨e, _, h⟩ | ⟨x, _, _, h⟩ <;> rw [h] <;> simp [this]
theorem formN_few {m : Nat} (hw : ∀ id x, L.find id = some x → x.ws.length ≤ m) (hk : k ≤ ids.length) : (L.formN ids k).2.length ≤ m * k := by
  induction k with
  | zero => exact Nat.zero_le _
  | succ k ih =>
    have h0 := ih (by omega)
    rcases formN_cases (L := L) (show k < ids.length by omega) with ⟨e, _, h⟩ | ⟨x, hx, _, h⟩
    · rw [h, Nat.mul_add]; dsimp only; omega
    · rw [h, Nat.mul_add]
      have := hw _ x hx
      dsimp only
      rw [List.length_append]
      omega
theorem bars_no {x : LTx} {ws : List Wr} (h : L.bars x ws = false) : ∀ y ∈ x.ws, y.key ∉ ws.map Wr.key := by
  unfold Led.bars at h
  rw [Bool.or_eq_false_iff] at h
  intro y hy hm
  have : (x.ws.any fun y => hasK (ws.map Wr.key) y.key) = true := List.any_eq_true.2 ⟨y, hy, hasK_iff.2 hm⟩
  rw [h.2] at this
  cases this
theorem rising_nodup {l : List ByteArray} (h : Rising l) : l.Nodup := h.imp fun hk e => by rw [e, kl_irrefl] at hk; cases hk
theorem formN_nodup (hr : ∀ id x, L.find id = some x → Rising (x.ws.map Wr.key)) (hk : k ≤ ids.length) : ((L.formN ids k).2.map Wr.key).Nodup := by
  induction k with
  | zero => exact List.nodup_nil
  | succ k ih =>
    have h0 := ih (by omega)
    rcases formN_cases (L := L) (show k < ids.length by omega) with ⟨e, _, h⟩ | ⟨x, hx, hb, h⟩
    · rw [h]; exact h0
    · rw [h]
      dsimp only
      rw [List.map_append]
      refine List.nodup_append.2 ⟨h0, rising_nodup (hr _ x hx), fun a ha b hb' => ?_⟩
      rintro rfl
      obtain ⟨y, hy, e⟩ := List.mem_map.1 hb'
      exact bars_no hb y hy (e ▸ ha)
theorem formN_mem {P : Wr → Prop} (hw : ∀ id x, L.find id = some x → ∀ y ∈ x.ws, P y) (hk : k ≤ ids.length) : ∀ y ∈ (L.formN ids k).2, P y := by
  induction k with
  | zero => intro y hy; cases hy
  | succ k ih =>
    have h0 := ih (by omega)
    rcases formN_cases (L := L) (show k < ids.length by omega) with ⟨e, _, h⟩ | ⟨x, hx, hb, h⟩
    · rw [h]; exact h0
    · rw [h]
      intro y hy
      rcases List.mem_append.1 hy with hy | hy
      · exact h0 y hy
      · exact hw _ x hx y hy
end
end Go.Proofs.YtlmhphejgahfbaaGreatDoor
/- Numbers' bytes: record.number; order.one, value.Encode of a number. -/
set_option linter.unusedVariables false
set_option linter.unusedSimpArgs false
namespace Go.Proofs.YtlmhphejgahfbaaGreatDoor
open Go.RowKit

theorem top_xor (x : Nat) (h : x < 18446744073709551616) : x ^^^ 9223372036854775808 = (x + 9223372036854775808) % 18446744073709551616 := by
  apply Nat.eq_of_testBit_eq
  intro i
  rw [show (18446744073709551616 : Nat) = 2 ^ 64 from rfl, show (9223372036854775808 : Nat) = 2 ^ 63 from rfl, Nat.testBit_mod_two_pow, Nat.testBit_xor, Nat.testBit_two_pow, Nat.add_comm]
  rcases Nat.lt_trichotomy i 63 with hi | hi | hi
  · rw [Nat.testBit_two_pow_add_gt hi]
    simp [show i < 64 by omega, show ¬ 63 = i by omega]
  · subst hi
    rw [Nat.testBit_two_pow_add_eq]
    simp
  · have hx : x.testBit i = false := Nat.testBit_lt_two_pow (Nat.lt_of_lt_of_le h (Nat.pow_le_pow_right (n := 2) (by omega) (show 64 ≤ i by omega)))
    simp [show ¬ i < 64 by omega, show ¬ 63 = i by omega, hx]
/-- A number with its sign turned. -/
def keyN (n : Int) : Nat := (n + 9223372036854775808).toNat
theorem keyN_lt {n : Int} (h : n < 9223372036854775808) : keyN n < 18446744073709551616 := by unfold keyN; omega
theorem xor_sign (n : Int) (h0 : -9223372036854775808 ≤ n) (h1 : n < 9223372036854775808) : bits .xor .u64 (IntKind.u64.wrap n) 9223372036854775808 = (keyN n : Int) := by
  show IntKind.u64.wrap (((BitVec.ofInt 64 (IntKind.u64.wrap n) ^^^ BitVec.ofInt 64 9223372036854775808 : BitVec 64)).toNat : Int) = _
  have hw : IntKind.u64.wrap n = n % 18446744073709551616 := rfl
  rw [BitVec.toNat_xor, BitVec.toNat_ofInt, hw, show (BitVec.ofInt 64 9223372036854775808).toNat = 9223372036854775808 from by decide]
  have e : ((n % 18446744073709551616) % ((2 ^ 64 : Nat) : Int)).toNat = (n % 18446744073709551616).toNat := by
    rw [show ((2 ^ 64 : Nat) : Int) = 18446744073709551616 from rfl, Int.emod_emod_of_dvd _ (Int.dvd_refl _)]
  rw [e, top_xor _ (by omega)]
  show (((n % 18446744073709551616).toNat + 9223372036854775808) % 18446744073709551616 : Nat) % (18446744073709551616 : Int) = _
  unfold keyN
  omega

/-- A text with its noughts marked. -/
def esc (l : Bs) : Bs := l.flatMap fun b => if b = 0 then [0, 255] else [b]
/-- A value in a key. -/
def oneB (v : Val) : Bs := if v.1 = 1 then 2 :: beN (keyN v.2.1) 8 else if v.1 = 2 then 3 :: (esc (keyB v.2.2) ++ [0, 1]) else [1]
/-- A value in a row. -/
def encB (v : Val) : Bs := v.1 :: (if v.1 = 1 then beN (v.2.1 % 18446744073709551616).toNat 8 else if v.1 = 2 then beN v.2.2.size 2 ++ keyB v.2.2 else [])
/-- A call's bytes of its own. -/
def OwnB (w : World) (p : Bs) (e : Ending) (w' : World) : Prop := ∃ A c, e = .returned (.slice A p.length c) ∧ Ow Ty.u8 5 w' (fun i => w.heap.size ≤ i) (.slice A p.length c) p ∧ Fr No w w'

set_option maxHeartbeats 1000000 in
set_option maxRecDepth 100000 in
theorem one_int {w : World} (n : Int) (h0 : -9223372036854775808 ≤ n) (h1 : n < 9223372036854775808) : Calls Tryz.prog 177 #[vA (vI n)] w (OwnB w (oneB (vI n))) := by
  have hx := xor_sign n h0 h1
  have hkl := keyN_lt h1
  show Calls _ _ _ w (OwnB w (2 :: beN (keyN n) 8))
  have hlenp : (2 :: beN (keyN n) 8).length = 9 := by rw [List.length_cons, beN_len]
  show Calls _ _ #[.agg #[.int .u8 1, .int .i64 n, .string ⟨#[]⟩]] _ _
  obtain ⟨N, hN⟩ : ∃ N, keyN n = N := ⟨_, rfl⟩
  rw [hN] at hx hkl hlenp ⊢
  unfold OwnB
  rw [hlenp]
  have hn0 : (0 : Int) ≤ (N : Int) := Int.natCast_nonneg _
  obtain ⟨W, hW⟩ : ∃ W, W = (w.alloc (.cells #[.int .u8 1, .int .i64 n, .string ⟨#[]⟩] 35)).alloc (.cells #[.int .u8 2] 5) := ⟨_, rfl⟩
  have hOW : Ow Ty.u8 5 W (fun k => w.heap.size ≤ k) (.slice (some ⟨w.heap.size + 1, 0, none⟩) 1 1) [2] := by
    have := ow_new1 (w := w.alloc (.cells #[.int .u8 1, .int .i64 n, .string ⟨#[]⟩] 35)) 2 (x := 2) rfl
    rw [hW]
    rw [World.size_alloc] at this
    exact this.mono fun i hi _ => by omega
  have hfW : Fr No w W := by rw [hW]; exact ((Fr.refl No w).alloc _).alloc _
  have HW := Lib.hid (And.intro hOW hfW)
  clear hOW hfW h0 h1 hN hkl hlenp
  go_enter Tryz.func177, Tryz.ntmps177
  go_wp2_with fail
  rw [← hW]
  clear hW
  go_loopw [3, 5] (fun v s wr => ∃ (j : Nat) (e : Int) (A' : Option Addr) (c' : Nat), j ≤ 8 ∧ e = 7 - (j : Int) ∧ v = .slice A' (1 + j) c' ∧ s = .int .i64 e ∧ Hid (Ow Ty.u8 5 wr (fun i => w.heap.size ≤ i) (.slice A' (1 + j) c') ([2] ++ (beN N 8).take j) ∧ Fr No w wr)) (fun _ s _ => (intOf s + 1).toNat)
  case atStart => exact ⟨0, _, _, 1, by omega, by omega, rfl, rfl, by simpa using HW.out.1, HW.out.2⟩
  case round =>
    obtain ⟨j, e, A', c', hj, he, rfl, rfl, I⟩ := hrel
    by_cases hlt : 0 ≤ e
    · obtain ⟨r, rfl⟩ := Int.eq_ofNat_of_zero_le hlt
      have hr7 : (r : Int) ≤ 7 := by omega
      have hjl : j < (beN N 8).length := by rw [beN_len]; omega
      have hb := beN_get N 8 j (by omega)
      rw [show 8 - 1 - j = r by omega] at hb
      obtain ⟨b, hbb⟩ : ∃ b, UInt8.ofNat (N / 2 ^ (8 * r)) = b := ⟨_, rfl⟩
      have qb : (b.toNat : Int) = (N : Int) / 2 ^ (8 * r) % 256 := by
        rw [← hbb, UInt8.toNat_ofNat', Int.natCast_emod, Int.natCast_ediv, Int.natCast_pow]; rfl
      have hnext : [2] ++ (beN N 8).take j ++ [b] = [2] ++ (beN N 8).take (j + 1) := by rw [List.take_succ_eq_append_getElem hjl, hb, hbb, List.append_assoc]
      have hlen : ([2] ++ (beN N 8).take j).length = 1 + j := by rw [List.length_append, List.length_take, beN_len]; simp; omega
      obtain ⟨W1, hW1⟩ : ∃ W1, W1 = wr.alloc (.cells #[.int .u8 ((N : Int) / 2 ^ (8 * r) % 256)] 5) := ⟨_, rfl⟩
      have hf1 : Fr No wr W1 := by rw [hW1]; exact (Fr.refl No wr).alloc _
      have hA : At W1 (some ⟨wr.heap.size, 0, none⟩) [.int .u8 (b.toNat : Int)] := by
        rw [hW1, qb]; exact At.block (heap_alloc_new wr _)
      have hO := I.out.1.fr0 hf1
      obtain ⟨A1, c1, w1, hrun, hO1, hg1, _⟩ := run_ow_append (P := Tryz.prog) (ty := 46) (ty' := 46) Ty.u8 hO (.int .u8 0) 1 Tryz.underlying46 info_u8 rfl (by decide) (by decide) 1 (ys := [b]) (row_u8b _ _ b) hA (by rw [hlen]; simp; omega)
      rw [hlen] at hrun hO1
      rw [hnext] at hO1
      have hf2 : Fr No w w1 := (I.out.2.next hf1 (fun _ _ f => f.elim)).grown hg1 fun k hk => .inr (I.out.1.own hk).1
      have hsz : w.heap.size ≤ W1.heap.size := Nat.le_trans I.out.2.size hf1.size
      have HH := Lib.hid (And.intro hO1 (And.intro hf2 hsz))
      clear hsz hO1 hf2 hg1 hO hA hf1 hlen hnext qb hbb hb hjl
      have HE2 := Lib.hid he
      clear he
      simp only [List.length_singleton] at hrun HH
      go_wp2_with (at_builtin; rw [← hW1]; refine wpList_plain rfl fun K hK => wp_append_run _ _ _ _ rfl rfl rfl hrun (hK _ _ ?_))
      go_roundw
      case rel => exact ⟨j + 1, (r : Int) - 1, A1, c1, by have := HE2.out; omega, by have := HE2.out; omega, rfl, by go_num, HH.out.1.mono fun i hi _ => by (have := HH.out.2.2; rcases hi with hi | hi <;> omega), HH.out.2.1⟩
      case measure => simp [intOf]
    · obtain rfl : j = 8 := by omega
      have ht : (beN N 8).take 8 = beN N 8 := List.take_of_length_le (by rw [beN_len]; omega)
      rw [ht] at I
      clear ht
      go_wp2_with fail
      go_ret
      exact ⟨A', c', rfl, I.out.1, I.out.2⟩

theorem enc_byte (n : Int) (r : Nat) (hr : r ≤ 7) : ((UInt8.ofNat ((n % 18446744073709551616).toNat / 2 ^ (8 * r))).toNat : Int) = n / 2 ^ (8 * r) % 256 := by
  rw [UInt8.toNat_ofNat', Int.natCast_emod, Int.natCast_ediv, Int.natCast_pow, Int.toNat_of_nonneg (by omega)]
  have : r = 0 ∨ r = 1 ∨ r = 2 ∨ r = 3 ∨ r = 4 ∨ r = 5 ∨ r = 6 ∨ r = 7 := by omega
  rcases this with rfl | rfl | rfl | rfl | rfl | rfl | rfl | rfl <;> simp only [Nat.reduceMul, Int.reducePow, Nat.reducePow, Int.cast_ofNat_Int] <;> omega
set_option maxHeartbeats 1000000 in
set_option maxRecDepth 100000 in
theorem enc_int {w : World} (n : Int) : Calls Tryz.prog 101 #[vA (vI n)] w (OwnB w (encB (vI n))) := by
  show Calls _ _ _ w (OwnB w (1 :: beN (n % 18446744073709551616).toNat 8))
  have hlenp : (1 :: beN (n % 18446744073709551616).toNat 8).length = 9 := by rw [List.length_cons, beN_len]
  show Calls _ _ #[.agg #[.int .u8 1, .int .i64 n, .string ⟨#[]⟩]] _ _
  have HE := Lib.hid (fun (r : Nat) (hr : r ≤ 7) => enc_byte n r hr)
  obtain ⟨N, hN⟩ : ∃ N, (n % 18446744073709551616).toNat = N := ⟨_, rfl⟩
  rw [hN] at hlenp HE ⊢
  unfold OwnB
  rw [hlenp]
  obtain ⟨W, hW⟩ : ∃ W, W = (w.alloc (.cells #[.int .u8 1, .int .i64 n, .string ⟨#[]⟩] 35)).alloc (.cells #[.int .u8 1] 5) := ⟨_, rfl⟩
  have hOW : Ow Ty.u8 5 W (fun k => w.heap.size ≤ k ∧ k ≠ w.heap.size) (.slice (some ⟨w.heap.size + 1, 0, none⟩) 1 1) [1] := by
    have := ow_new1 (w := w.alloc (.cells #[.int .u8 1, .int .i64 n, .string ⟨#[]⟩] 35)) 1 (x := 1) rfl
    rw [hW]
    rw [World.size_alloc] at this
    exact this.mono fun i hi _ => by omega
  have hfW : Fr No w W := by rw [hW]; exact ((Fr.refl No w).alloc _).alloc _
  have hvW : W.heap[w.heap.size]? = some (.cells #[.int .u8 1, .int .i64 n, .string ⟨#[]⟩] 35 (0, 0)) := by rw [hW]; exact blk_two1 w _ _
  have hzW : w.heap.size < W.heap.size := by rw [hW]; simp; omega
  have HW := Lib.hid (And.intro hOW (And.intro hfW (And.intro hvW hzW)))
  have v0 := blk_cell hvW 0
  simp at v0
  clear hOW hfW hN hlenp hvW hzW
  go_enter Tryz.func101, Tryz.ntmps101
  go_wp2_with fail
  rw [← hW]
  clear hW
  go_wp2_with fail
  go_loopw [3, 4] (fun v s wr => ∃ (j : Nat) (e : Int) (A' : Option Addr) (c' : Nat), j ≤ 8 ∧ e = 7 - (j : Int) ∧ v = .slice A' (1 + j) c' ∧ s = .int .i64 e ∧ wr.cell? ⟨w.heap.size, 1, none⟩ = some (.int .i64 n) ∧ Hid (Ow Ty.u8 5 wr (fun i => w.heap.size ≤ i ∧ i ≠ w.heap.size) (.slice A' (1 + j) c') ([1] ++ (beN N 8).take j) ∧ Fr No w wr ∧ w.heap.size < wr.heap.size)) (fun _ s _ => (intOf s + 1).toNat)
  case atStart => exact ⟨0, _, _, 1, by omega, by omega, rfl, rfl, by have := blk_cell HW.out.2.2.1 1; simpa using this, by simpa using HW.out.1, HW.out.2.1, HW.out.2.2.2⟩
  case round =>
    obtain ⟨j, e, A', c', hj, he, rfl, rfl, hc, I⟩ := hrel
    by_cases hlt : 0 ≤ e
    · obtain ⟨r, rfl⟩ := Int.eq_ofNat_of_zero_le hlt
      have hr7 : (r : Int) ≤ 7 := by omega
      have hjl : j < (beN N 8).length := by rw [beN_len]; omega
      have hb := beN_get N 8 j (by omega)
      rw [show 8 - 1 - j = r by omega] at hb
      obtain ⟨b, hbb⟩ : ∃ b, UInt8.ofNat (N / 2 ^ (8 * r)) = b := ⟨_, rfl⟩
      have qb : (b.toNat : Int) = n / 2 ^ (8 * r) % 256 := by rw [← hbb]; exact HE.out r (by omega)
      have hnext : [1] ++ (beN N 8).take j ++ [b] = [1] ++ (beN N 8).take (j + 1) := by rw [List.take_succ_eq_append_getElem hjl, hb, hbb, List.append_assoc]
      have hlen : ([1] ++ (beN N 8).take j).length = 1 + j := by rw [List.length_append, List.length_take, beN_len]; simp; omega
      obtain ⟨W1, hW1⟩ : ∃ W1, W1 = wr.alloc (.cells #[.int .u8 (n / 2 ^ (8 * r) % 256)] 5) := ⟨_, rfl⟩
      have hf1 : Fr No wr W1 := by rw [hW1]; exact (Fr.refl No wr).alloc _
      have hA : At W1 (some ⟨wr.heap.size, 0, none⟩) [.int .u8 (b.toNat : Int)] := by
        rw [hW1, qb]; exact At.block (heap_alloc_new wr _)
      have hO := I.out.1.fr0 hf1
      obtain ⟨A1, c1, w1, hrun, hO1, hg1, _⟩ := run_ow_append (P := Tryz.prog) (ty := 46) (ty' := 46) Ty.u8 hO (.int .u8 0) 1 Tryz.underlying46 info_u8 rfl (by decide) (by decide) 1 (ys := [b]) (row_u8b _ _ b) hA (by rw [hlen]; simp; omega)
      rw [hlen] at hrun hO1
      rw [hnext] at hO1
      have hf2 : Fr No w w1 := (I.out.2.1.next hf1 (fun _ _ f => f.elim)).grown hg1 fun k hk => .inr (I.out.1.own hk).1.1
      have hc1 : w1.cell? ⟨w.heap.size, 1, none⟩ = some (.int .i64 n) := ((hf1.mono (G := fun i => i ≠ w.heap.size) fun _ _ f => f.elim).grown hg1 fun k hk => .inl (I.out.1.own hk).1.2).cell hc (fun f => f rfl)
      have hsz : w.heap.size < W1.heap.size := Nat.lt_of_lt_of_le I.out.2.2 hf1.size
      have hsz1 : w.heap.size < w1.heap.size := Nat.lt_of_lt_of_le hsz hg1.size
      have HH := Lib.hid (And.intro hO1 (And.intro hf2 (And.intro hsz (And.intro hc1 hsz1))))
      clear hsz hO1 hf2 hg1 hO hA hf1 hlen hnext qb hbb hb hjl hc1 hsz1
      have HE2 := Lib.hid he
      clear he
      simp only [List.length_singleton] at hrun HH
      go_wp2_with (at_builtin; rw [← hW1]; refine wpList_plain rfl fun K hK => wp_append_run _ _ _ _ rfl rfl rfl hrun (hK _ _ ?_))
      go_roundw
      case rel => exact ⟨j + 1, (r : Int) - 1, A1, c1, by have := HE2.out; omega, by have := HE2.out; omega, rfl, by go_num, HH.out.2.2.2.1, HH.out.1.mono fun i hi _ => by (have := HH.out.2.2.1; rcases hi with hi | hi; exact hi; exact ⟨by omega, by omega⟩), HH.out.2.1, HH.out.2.2.2.2⟩
      case measure => simp [intOf]
    · obtain rfl : j = 8 := by omega
      have ht : (beN N 8).take 8 = beN N 8 := List.take_of_length_le (by rw [beN_len]; omega)
      rw [ht] at I
      clear ht
      go_wp2_with fail
      go_ret
      exact ⟨A', c', rfl, I.out.1.mono fun i hi _ => hi.1, I.out.2.1⟩
end Go.Proofs.YtlmhphejgahfbaaGreatDoor
