/- Texts of this claim, one behind the other: OkL, SortW, Form. -/
import Derived.Test.YtlmhphejgahfbaaGreatDoorMrowledgerfirst19
import Derived.Test.YtlmhphejgahfbaaGreatDoorMrowledgerfirst20
import Derived.Test.YtlmhphejgahfbaaGreatDoorMrowledgerfirst18
import Derived.Test.YtlmhphejgahfbaaGreatDoorShelf2
import Derived.Shelf.SlSortCmp.NoneTotal
/- Layer 15 (ledger): few things stay few: New, Begin, Put; the document's example, in plain words. -/
set_option linter.unusedVariables false
set_option linter.unusedSimpArgs false
namespace Go.Proofs.YtlmhphejgahfbaaGreatDoor
open Go.RowKit

theorem Led.Ok.new {tabs : List Tab} (h : TabsOk tabs) (m : Nat) : (Led.new tabs).Ok m where
  tabs := h
  sto := ⟨Int.le_refl _, Int.natCast_nonneg _, Nat.zero_le _, fun p hp => (by cases hp), fun p hp => (by cases hp)⟩
  next0 := Int.le_refl _
  next1 := Int.natCast_nonneg _
  ids := fun x hx => by cases hx
  once := List.nodup_nil
  base := fun x hx => by cases hx
  ws := fun x hx => by cases hx
  rise := fun x hx => by cases hx
  sts := ⟨Nat.le_refl _, (show 1 ≤ 6 by decide)⟩
  st := fun x hx => by
    obtain rfl : x = _ := List.mem_singleton.1 hx
    exact ⟨sha_size _, sha_size _, sha_size _, TrOk.nil 0 (by decide), Nat.zero_le _⟩
theorem Led.Ok.begin_ {L : Led} {m : Nat} (h : L.Ok m) (hm : L.next + 1 ≤ m) : L.begin_.Ok m where
  tabs := h.tabs
  sto := h.sto
  next0 := by have := h.next0; show 0 ≤ L.next + 1; omega
  next1 := hm
  ids := fun x hx => by
    have h0 := h.next0
    show 1 ≤ x.id ∧ x.id ≤ L.next + 1
    rcases List.mem_append.1 hx with hx | hx
    · have := h.ids x hx; omega
    · obtain rfl : x = _ := List.mem_singleton.1 hx
      dsimp only; omega
  once := by
    show ((L.txs ++ [_]).map LTx.id).Nodup
    rw [List.map_append]
    refine List.nodup_append.2 ⟨h.once, by simp, fun a ha b hb => ?_⟩
    obtain ⟨x, hx, rfl⟩ := List.mem_map.1 ha
    obtain rfl : b = L.next + 1 := by simpa using hb
    have := (h.ids x hx).2
    omega
  base := fun x hx => by
    rcases List.mem_append.1 hx with hx | hx
    · exact h.base x hx
    · obtain rfl : x = _ := List.mem_singleton.1 hx
      exact ⟨h.sto.now0, Int.le_refl _⟩
  ws := fun x hx => by
    rcases List.mem_append.1 hx with hx | hx
    · exact h.ws x hx
    · obtain rfl : x = _ := List.mem_singleton.1 hx
      exact ⟨Nat.zero_le _, fun y hy => (by cases hy)⟩
  rise := fun x hx => by
    rcases List.mem_append.1 hx with hx | hx
    · exact h.rise x hx
    · obtain rfl : x = _ := List.mem_singleton.1 hx
      exact List.Pairwise.nil
  sts := h.sts
  st := h.st
theorem Led.Ok.setTx {L : Led} {m : Nat} {id : Int} {ws : List Wr} (h : L.Ok m) (h1 : ws.length ≤ 20 ∧ ∀ y ∈ ws, 1 ≤ y.key.size ∧ y.key.size ≤ 1000 ∧ y.row.length ≤ 4000 ∧ (y.gone = true → y.row = [])) (h2 : Rising (ws.map Wr.key)) : (L.setTx id ws).Ok m := by
  have hmem : ∀ x ∈ (L.setTx id ws).txs, ∃ y ∈ L.txs, x.id = y.id ∧ x.base = y.base ∧ (x.ws = y.ws ∨ x.ws = ws) := fun x hx => by
    obtain ⟨y, hy, rfl⟩ := List.mem_map.1 hx
    refine ⟨y, hy, ?_⟩
    split
    · exact ⟨rfl, rfl, .inr rfl⟩
    · exact ⟨rfl, rfl, .inl rfl⟩
  refine ⟨h.tabs, h.sto, h.next0, h.next1, fun x hx => ?_, ?_, fun x hx => ?_, fun x hx => ?_, fun x hx => ?_, h.sts, h.st⟩
  · obtain ⟨y, hy, a, b, c⟩ := hmem x hx
    rw [a]; exact h.ids y hy
  · have : (L.setTx id ws).txs.map LTx.id = L.txs.map LTx.id := by
      unfold Led.setTx
      rw [List.map_map]
      refine List.map_congr_left fun x _ => ?_
      show (if x.id = id then { x with ws := ws } else x).id = x.id
      split <;> rfl
    rw [this]; exact h.once
  · obtain ⟨y, hy, a, b, c⟩ := hmem x hx
    rw [b]; exact h.base y hy
  · obtain ⟨y, hy, a, b, c⟩ := hmem x hx
    rcases c with c | c
    · rw [c]; exact h.ws y hy
    · rw [c]; exact h1
  · obtain ⟨y, hy, a, b, c⟩ := hmem x hx
    rcases c with c | c
    · rw [c]; exact h.rise y hy
    · rw [c]; exact h2
/-- A number's row in the one table. -/
def numW (n : Int) : Wr := rowW 0 1 [vI n]
theorem numFits (n : Int) (h0 : -9223372036854775808 ≤ n) (h1 : n < 9223372036854775808) : RowFits [tab0] 0 1 [vI n] where
  lt := by decide
  few := by decide
  keys := rfl
  len := rfl
  kle := Nat.le_refl 1
  le8 := (show 1 ≤ 8 by decide)
  fits := fun i h h' => by
    obtain rfl : i = 0 := by have : i < 1 := h; omega
    exact valFits_int n rfl
  good := fun v hv => by
    obtain rfl : v = _ := List.mem_singleton.1 hv
    exact good_int n h0 h1
theorem numW_fine (n : Int) : 1 ≤ (numW n).key.size ∧ (numW n).key.size ≤ 1000 ∧ (numW n).row.length ≤ 4000 ∧ ((numW n).gone = true → (numW n).row = []) := by
  have hk : (numW n).key.size = 10 := by
    show ((UInt8.ofNat 0 :: [vI n].flatMap oneB).toArray).size = 10
    rw [List.size_toArray, List.length_cons]
    show ([vI n].flatMap oneB).length + 1 = 10
    rw [show [vI n].flatMap oneB = 2 :: beN (keyN n) 8 ++ [] from rfl, List.append_nil, List.length_cons, beN_len]
  have hr : (numW n).row.length = 10 := by
    show (UInt8.ofNat 1 :: [vI n].flatMap encB).length = 10
    rw [List.length_cons, show [vI n].flatMap encB = 1 :: beN (n % 18446744073709551616).toNat 8 ++ [] from rfl, List.append_nil, List.length_cons, beN_len]
  refine ⟨by omega, by omega, by omega, fun h => by cases h⟩
/-- The example's ledger, ahead of its commit. -/
def onceL : Led := (Led.new [tab0]).begin_.setTx 1 [numW 5]
theorem onceL_ok : onceL.Ok 4 := ((Led.Ok.new tab0_ok 4).begin_ (by decide)).setTx ⟨by decide, fun y hy => by obtain rfl : y = _ := List.mem_singleton.1 hy; exact numW_fine 5⟩ (by simp [Rising])
theorem onceL_find : onceL.find 1 = some ⟨1, 0, [numW 5]⟩ := rfl
theorem onceL_form : onceL.formN [1] 1 = ([0], [numW 5]) := by
  have h : (1 : Nat) = 0 + 1 := rfl
  have hb : onceL.bars ⟨1, 0, [numW 5]⟩ (onceL.formN [1] 0).2 = false := rfl
  exact formN_ok (L := onceL) (ids := [1]) (k := 0) (by decide) onceL_find (by simp) hb
theorem once_out {ys : List Wr} (h : ys.Perm (onceL.formN [1] 1).2) : (onceL.publish ys [1]).s.now = 1 ∧ ∃ x, (onceL.publish ys [1]).sts = [⟨firstD, dE, sha [], .nil⟩, x] := by
  rw [onceL_form] at h
  obtain rfl : ys = [numW 5] := List.perm_singleton.1 h
  exact ⟨rfl, _, rfl⟩
end Go.Proofs.YtlmhphejgahfbaaGreatDoor
/- slices.SortFunc at writes, by their keys. -/
set_option linter.unusedVariables false
set_option linter.unusedSimpArgs false
namespace Go.Proofs.YtlmhphejgahfbaaGreatDoor
open Go.RowKit Go.Shelf Go.Sort

/-- Which one stands ahead. -/
def cmpKey (a b : ByteArray) : Int := if kl a b then -1 else if kl b a then 1 else 0
theorem compare_ok (a b : ByteArray) (w : World) : Calls Tryz.prog 77 #[.string a, .string b] w fun e w' => e = .returned (.int .i64 (cmpKey a b)) ∧ w' = w := by
  have hn : ∀ x, Calls Tryz.prog 142 #[.string x] w fun e w' => e = .returned (.bool false) ∧ w' = w := by
    intro x
    go_enter Tryz.func142, Tryz.ntmps142
    go_wp2
    go_ret
    exact ⟨by simp, rfl⟩
  have H := Lib.hid hn
  clear hn
  have hc : ∀ (u : Int), cmpKey a b = u ↔ u = cmpKey a b := fun u => eq_comm
  have HC := Lib.hid hc
  clear hc
  have hb : (a.toList == b.toList) = (!Op.bytesLess a.toList b.toList && !Op.bytesLess b.toList a.toList) := by
    rw [beq_toList]
    cases h1 : Op.bytesLess a.toList b.toList with
    | true => exact decide_eq_false (kl_ne h1)
    | false =>
      cases h2 : Op.bytesLess b.toList a.toList with
      | true => exact decide_eq_false fun e => kl_ne h2 e.symm
      | false => exact decide_eq_true (kl_tri h1 h2)
  cases h1 : Op.bytesLess a.toList b.toList <;> cases h2 : Op.bytesLess b.toList a.toList
  all_goals
    have h3 : cmpKey a b = if kl a b then -1 else if kl b a then 1 else 0 := rfl
    unfold kl at h3
    rw [h1, h2] at h3 hb
    have H3 := Lib.hid h3
    clear h3
    simp only [Bool.not_true, Bool.not_false, Bool.and_true, Bool.and_false, Bool.true_and, Bool.false_and] at hb
    go_enter Tryz.func77, Tryz.ntmps77
    go_wp2_with (go_at_call 142; refine (H.out _).mono ?_; rintro e w' ⟨rfl, rfl⟩)
    go_ret
    exact ⟨by rw [H3.out]; rfl, rfl⟩

instance : Inhabited Wr := ⟨⟨⟨#[]⟩, [], false⟩⟩
/-- A write, and where its row lies. -/
abbrev WrR := Wr × (Option Addr × Nat × Nat)
def encW (x : WrR) : List Value := [.string x.1.key, .slice x.2.1 x.2.2.1 x.2.2.2, .bool x.1.gone]
def cfW (x y : WrR) : Int := cmpKey x.1.key y.1.key
theorem ltW (x y : WrR) : ltOf cfW x y = kl x.1.key y.1.key := by
  unfold ltOf cfW cmpKey
  cases h1 : kl x.1.key y.1.key <;> cases h2 : kl y.1.key x.1.key <;> simp
theorem swoW : SWO (ltOf cfW) where
  irrefl x := by rw [ltW, kl_irrefl]
  trans x y z h1 h2 := by rw [ltW] at *; exact kl_trans h1 h2
  ntrans x y z h1 h2 := by
    rw [ltW] at *
    cases h : kl x.1.key z.1.key with
    | false => rfl
    | true =>
      cases h3 : kl y.1.key x.1.key with
      | true => rw [kl_trans h3 h] at h2; cases h2
      | false => rw [kl_tri h1 h3] at h; rw [h] at h2; cases h2

set_option maxHeartbeats 1000000 in
theorem form1_fn (x y : WrR) (W : World) : Calls Tryz.prog 76 #[.agg (encW x).toArray, .agg (encW y).toArray] W fun e w' => e = .returned (.int .i64 (cfW x y)) ∧ ∃ q os', w' = grow (W.drewN q) os' := by
  have H := Lib.hid (compare_ok x.1.key y.1.key)
  obtain ⟨⟨k1, r1, g1⟩, A1, n1, c1⟩ := x
  obtain ⟨⟨k2, r2, g2⟩, A2, n2, c2⟩ := y
  unfold cfW
  dsimp only at H ⊢
  generalize cmpKey k1 k2 = r at H ⊢
  change Calls _ _ #[.agg #[.string k1, .slice A1 n1 c1, .bool g1], .agg #[.string k2, .slice A2 n2 c2, .bool g2]] _ _
  go_enter Tryz.func76, Tryz.ntmps76
  go_wp2_with (go_at_call 77; refine (H.out _).mono ?_; rintro e w' ⟨rfl, rfl⟩)
  go_ret
  exact ⟨rfl, 0, _, by rw [alloc_eq_grow, alloc_eq_grow, grow_grow]; rfl⟩

theorem row_wrR {w : World} {F : Nat → Prop} {xs : List Wr} {cs : List Value} (h : Row tWrO w F xs cs) : ∃ d : List WrR, d.map Prod.fst = xs ∧ cs = d.flatMap encW ∧ ∀ x ∈ d, tWrO.K w F x.1 (encW x) := by
  induction xs generalizing cs with
  | nil => exact ⟨[], rfl, h, fun x hx => by cases hx⟩
  | cons x xs ih =>
    obtain ⟨c, e, rfl, h1, h2⟩ := h
    obtain ⟨d, h3, rfl, h4⟩ := ih h2
    obtain ⟨A, c', rfl, h5⟩ := tWrO_open h1
    refine ⟨(x, A, x.row.length, c') :: d, by rw [List.map_cons, h3], rfl, fun y hy => ?_⟩
    rcases List.mem_cons.1 hy with rfl | hy
    · exact h1
    · exact h4 y hy
theorem row_wrR_mk {w : World} {F : Nat → Prop} {d : List WrR} (h : ∀ x ∈ d, tWrO.K w F x.1 (encW x)) : Row tWrO w F (d.map Prod.fst) (d.flatMap encW) := by
  induction d with
  | nil => rfl
  | cons x d ih => exact ⟨encW x, d.flatMap encW, rfl, h x (List.mem_cons_self ..), ih fun y hy => h y (List.mem_cons_of_mem _ hy)⟩
theorem flat_getW (d : List WrR) : ∀ t, t < d.length * 3 → (d.flatMap encW)[t]? = some ((encW d[t / 3]!)[t % 3]!) := by
  induction d with
  | nil => intro t ht; simp at ht
  | cons x d ih =>
    intro t ht
    rw [List.flatMap_cons]
    match t with
    | 0 => rfl
    | 1 => rfl
    | 2 => rfl
    | t + 3 =>
      have e1 : (t + 3) / 3 = t / 3 + 1 := by omega
      have e2 : (t + 3) % 3 = t % 3 := by omega
      rw [List.getElem?_append_right (by show 3 ≤ t + 3; omega), show t + 3 - (encW x).length = t from rfl, ih t (by simp at ht; omega), e1, e2]
      rfl
theorem flatK_eqW (d : List WrR) : (flatK encW 3 d.toArray).toList = d.flatMap encW := by
  apply List.ext_getElem?
  intro t
  by_cases ht : t < d.length * 3
  · rw [flat_getW d t ht]
    have h1 : t < (flatK encW 3 d.toArray).size := by rw [size_flatK]; simpa using ht
    have := get_flatK encW 3 d.toArray t (by simpa using ht)
    rw [getElem!_pos _ t h1] at this
    rw [Array.getElem?_toList, Array.getElem?_eq_getElem h1, this]
    simp
  · have h2 : (d.flatMap encW).length = d.length * 3 := by
      clear ht
      induction d with
      | nil => rfl
      | cons x d ih => rw [List.flatMap_cons, List.length_append, ih, List.length_cons]; show 3 + _ = _; omega
    rw [List.getElem?_eq_none (by rw [Array.length_toList, size_flatK]; simp; omega), List.getElem?_eq_none (by omega)]

theorem mapBlock_atW {w : World} {g : Nat} {cur : Array Value} {e : TypeId} {fr : Nat × Nat} (hb : w.heap[g]? = some (.cells cur e fr)) (f : Array Value → Array Value) : (mapBlock w g f).heap[g]? = some (.cells (f cur) e fr) := by
  unfold mapBlock
  simp only [Array.getElem?_modify, if_true, hb, Option.map_some]
  rfl
theorem mapBlock_farW {w : World} {g k : Nat} (f : Array Value → Array Value) (h : k ≠ g) : (mapBlock w g f).heap[k]? = w.heap[k]? := by
  unfold mapBlock
  simp only [Array.getElem?_modify, if_neg (fun e : g = k => h e.symm)]
theorem putCells_takeW {d cur : Array Value} (h : d.size ≤ cur.size) : (putCells id 0 d cur).toList.take d.size = d.toList := by
  apply List.ext_getElem?
  intro j
  rw [List.getElem?_take, Array.getElem?_toList, Array.getElem?_toList]
  unfold putCells
  rw [Array.getElem?_mapIdx]
  split
  · rename_i hj
    rw [Array.getElem?_eq_getElem (show j < cur.size by omega), Option.map_some, if_pos ⟨Nat.zero_le _, by omega⟩, Array.getElem?_eq_getElem hj]
    simp [getElem!_pos d j hj]
  · rename_i hj
    rw [Array.getElem?_eq_none (by omega)]

theorem key_nodup_sortedW {d : Array WrR} {n : Nat} (hs : SortedIn (ltOf cfW) 0 n d) (hn : n = d.size) (hd : (d.toList.map fun x => x.1.key).Nodup) : Rising (d.toList.map fun x => x.1.key) := by
  unfold Rising
  rw [List.pairwise_iff_getElem]
  intro i j hi hj hij
  simp only [List.length_map, Array.length_toList] at hi hj
  have h1 := hs i j (Nat.zero_le _) hij (by omega)
  rw [ltW, getElem!_pos d i hi, getElem!_pos d j hj] at h1
  have h2 : d[i].1.key ≠ d[j].1.key := by
    have := List.pairwise_iff_getElem.1 hd i j (by simpa using hi) (by simpa using hj) hij
    simpa using this
  simp only [List.getElem_map, Array.getElem_toList]
  cases h3 : kl d[i].1.key d[j].1.key with
  | true => rfl
  | false => exact absurd (kl_tri h3 h1) h2

set_option maxHeartbeats 1000000 in
theorem sort_writes {w : World} {F : Nat → Prop} {A : Option Addr} {c : Nat} {xs : List Wr} (h : Ow tWrO 117 w F (.slice A xs.length c) xs) (hl : xs.length ≤ 1000000000) (hnd : (xs.map Wr.key).Nodup) :
    Calls Tryz.prog 75 #[.slice A xs.length c, .func (.func 76) #[] #[]] w fun e w' =>
      e = .returned (.tuple #[]) ∧ ∃ ys, ys.Perm xs ∧ Rising (ys.map Wr.key) ∧ Ow tWrO 117 w' F (.slice A xs.length c) ys ∧ Fr (fun k => (Value.slice A xs.length c).ownBlock = some k) w w' := by
  obtain ⟨cs, ho1, ho2, ho3⟩ := h
  rcases ho1.2 with ⟨h5, h4⟩ | ⟨g, cap, cur, h4, _, hb, hnc, hcm, hsz, htk⟩
  · obtain rfl := List.eq_nil_of_length_eq_zero h4
    refine (AnyF.slices_SortFunc_none (P := Tryz.prog) (ρ := Tryz.sortF75_ren) Tryz.sortF75 A c _ w).mono ?_
    rintro e w' ⟨rfl, rfl⟩
    exact ⟨rfl, [], .refl _, List.Pairwise.nil, ⟨cs, ho1, ho2, ho3⟩, Fr.refl _ _⟩
  · injection h4 with h5 h6 h7
    subst h5
    subst h7
    obtain ⟨d, hd1, rfl, hd2⟩ := row_wrR ho2
    have hdl : d.length = xs.length := by rw [← hd1]; simp
    have hds : d.toArray.size = xs.length := by simpa using hdl
    have hH : HoldsK encW 3 w g 0 d.toArray := by
      intro j hj
      rw [size_flatK, hds] at hj
      refine ⟨?_, by rw [Nat.zero_add]; exact blk_frozen hb j⟩
      rw [Nat.zero_add, blk_cell hb, id_eq]
      have e1 : (flatK encW 3 d.toArray).toList[j]? = (d.flatMap encW)[j]? := by rw [flatK_eqW]
      rw [Array.getElem?_toList, Array.getElem?_eq_getElem (by rw [size_flatK, hds]; exact hj)] at e1
      rw [getElem!_pos _ j (by rw [size_flatK, hds]; exact hj), e1, ← htk, List.getElem?_take, if_pos (show j < xs.length * tWrO.sz from hj), Array.getElem?_toList]
    have hcon := AnyQ.slices_SortFunc Tryz.sortF75 3 Tryz.isAgg117 Tryz.sizeOf117 encW (fun _ => rfl) (fun x v hv => by simp [encW] at hv; rcases hv with rfl | rfl | rfl <;> rfl) cfW swoW 76 #[] g 0 c d.toArray w
      (enters_of Tryz.func76 (by kernel_rfl) rfl) (fun _ _ _ _ x y => form1_fn x y _) hH (blk_lt hb) (by rw [hds]; omega)
    rw [hds] at hcon
    refine Calls.mono hcon ?_
    rintro e w' ⟨rfl, d', n, os, hp, hs, rfl⟩
    have hsz' : d'.size = xs.length := hp.1.trans hds
    have hperm : d'.toList.Perm d := by
      have := hp.2.2
      rw [Array.extract_eq_self_of_le (by omega), Array.extract_eq_self_of_le (by omega)] at this
      simpa using this
    have hf : Fr (fun k => (Value.slice (some ⟨g, 0, none⟩) xs.length c).ownBlock = some k) w (sortWorldK encW 3 w g 0 n d' os) := by
      refine ⟨rfl, rfl, rfl, by simp [sortWorldK, putRowK, putRow, mapBlock, grow, Sort.ahead], fun k hk hn => ?_⟩
      have hne : k ≠ g := fun e => hn (by rw [e]; rfl)
      unfold sortWorldK grow putRowK putRow
      simp only []
      rw [Array.getElem?_append_left (by simp [mapBlock, Sort.ahead]; exact hk), mapBlock_farW _ hne]
      rfl
    have hb' : (sortWorldK encW 3 w g 0 n d' os).heap[g]? = some (.cells (putCells id 0 (flatK encW 3 d') cur) 117 (0, 0)) := by
      unfold sortWorldK grow putRowK putRow
      simp only []
      rw [Array.getElem?_append_left (by simp [mapBlock, Sort.ahead]; exact blk_lt hb)]
      exact mapBlock_atW (w := Sort.ahead w n) hb _
    have hcur : (flatK encW 3 d').size ≤ cur.size := by rw [size_flatK, hsz', hsz]; exact Nat.mul_le_mul_right 3 hnc
    have hflat : (flatK encW 3 d').toList = d'.toList.flatMap encW := by have := flatK_eqW d'.toList; simpa using this
    have hkeys : (d'.toList.map fun x => x.1.key) = (d'.toList.map Prod.fst).map Wr.key := by rw [List.map_map]; rfl
    have hpx : (d'.toList.map Prod.fst).Perm xs := by have := hperm.map Prod.fst; rwa [hd1] at this
    refine ⟨rfl, d'.toList.map Prod.fst, hpx, ?_, ⟨d'.toList.flatMap encW, ⟨?_, .inr ⟨g, c, _, ?_, Nat.zero_le _, hb', ?_, hcm, ?_, ?_⟩⟩, ?_, ho3⟩, hf⟩
    · rw [← hkeys]
      refine key_nodup_sortedW hs hsz'.symm ?_
      rw [hkeys]
      exact (hpx.map Wr.key).nodup_iff.2 hnd
    · rw [← hflat, Array.length_toList, size_flatK]; simp [hsz']; rfl
    · simp [hsz']
    · simpa [hsz'] using hnc
    · unfold putCells; simpa using hsz
    · have := putCells_takeW hcur
      rw [size_flatK] at this
      rw [List.length_map, Array.length_toList]
      show List.take (d'.size * 3) _ = _
      rw [this, hflat]
    · refine row_wrR_mk fun x hx => ?_
      have h1 := hd2 x (hperm.subset hx)
      exact (tWrO.stab h1 fun k hk hl => hf.block k hl hk.2)
end Go.Proofs.YtlmhphejgahfbaaGreatDoor
/- Layer 15 (ledger): Form. -/
set_option linter.unusedVariables false
set_option linter.unusedSimpArgs false
namespace Go.Proofs.YtlmhphejgahfbaaGreatDoor
open Go.RowKit

/-- Numbers of transactions, in a slice. -/
def IdsAt (w : World) (F : Nat → Prop) (A : Option Addr) (ids : List Int) : Prop := ids.length ≤ 1000 ∧ (ids = [] ∨ ∃ b o, A = some ⟨b, o, none⟩ ∧ F b ∧ ∀ j, j < ids.length → w.cell? ⟨b, o + j, none⟩ = some (.int .i64 (ids.getD j 0)))
theorem IdsAt.fr {S F : Nat → Prop} {w w' : World} {A : Option Addr} {ids : List Int} (h : IdsAt w F A ids) (f : Fr S w w') (hd : ∀ i, F i → ¬ S i) : IdsAt w' F A ids := by
  refine ⟨h.1, ?_⟩
  rcases h.2 with h2 | ⟨b, o, e, hF, hc⟩
  · exact .inl h2
  · exact .inr ⟨b, o, e, hF, fun j hj => f.cell (hc j hj) (hd _ hF)⟩
theorem IdsAt.fr0 {F : Nat → Prop} {w w' : World} {A : Option Addr} {ids : List Int} (h : IdsAt w F A ids) (f : Fr No w w') : IdsAt w' F A ids := h.fr f fun _ _ f => f
theorem info_err : (Tryz.prog.info? 24).map (fun i => (i.zero, i.size, i.bytes)) = some (some (.int .i64 0), 1, 8) := by kernel_rfl

/-- What Form has so far: the blocks at B: the result's, the batch's, the keys' map. -/
structure FI (w : World) (B : Nat) (N : Int) (errs : List Int) (wrs : List Wr) (Ao : Option Addr) (co : Nat) (Aw : Option Addr) (cw : Nat) (wr : World) : Prop where
  out : Ow (Ty.int .i64) 24 wr (fun i => B + 3 ≤ i) (.slice Ao errs.length co) errs
  ws : Ow tWrO 117 wr (fun i => B + 3 ≤ i ∧ (Value.slice Ao errs.length co).ownBlock ≠ some i) (.slice Aw wrs.length cw) wrs
  blk : wr.heap[B + 1]? = some (.cells #[.int .i64 N, .slice Aw wrs.length cw] 69 (0, 0))
  res : wr.heap[B]? = some (.cells #[.int .i64 0, .slice none 0 0] 69 (0, 0))
  map : MapIs wr (B + 1 + 1) (namesM (wrs.map Wr.key))
  fr : Fr No w wr
  siz : B + 3 ≤ wr.heap.size
  base : w.heap.size ≤ B
section
variable {w wr w' : World} {B : Nat} {N : Int} {errs : List Int} {wrs : List Wr} {Ao Aw : Option Addr} {co cw : Nat}
theorem FI.fr0 (h : FI w B N errs wrs Ao co Aw cw wr) (f : Fr No wr w') : FI w B N errs wrs Ao co Aw cw w' :=
  ⟨h.out.fr0 f, h.ws.fr0 f, f.blk h.blk (fun f => f), f.blk h.res (fun f => f), h.map.stab (f.block _ h.map.lt (fun f => f)), h.fr.next f (fun _ _ f => f.elim), Nat.le_trans h.siz f.size, h.base⟩
theorem FI.addErr (h : FI w B N errs wrs Ao co Aw cw wr) {W w1 : World} {e : Int} {A1 : Option Addr} {c1 : Nat} (hf : Fr No wr W) (ho : Ow (Ty.int .i64) 24 w1 (fun i => B + 3 ≤ i ∨ W.heap.size ≤ i) (.slice A1 (errs ++ [e]).length c1) (errs ++ [e])) (hg : W.grownBy w1 (Value.slice Ao errs.length co).ownBlock)
    (hat : (Value.slice A1 (errs ++ [e]).length c1).ownBlock = (Value.slice Ao errs.length co).ownBlock ∨ (Value.slice A1 (errs ++ [e]).length c1).ownBlock = some W.heap.size) : FI w B N (errs ++ [e]) wrs A1 c1 Aw cw w1 := by
  have hz := hf.size
  have hs := h.siz
  have hown : ∀ k, (Value.slice Ao errs.length co).ownBlock = some k → B + 3 ≤ k := fun k hk => (h.out.own hk).1
  have hfg : Fr (fun i => (Value.slice Ao errs.length co).ownBlock = some i) wr w1 := (hf.mono fun _ _ f => f.elim).grown hg fun k hk => .inl hk
  have hb := h.base
  refine ⟨ho.mono fun i hi _ => by rcases hi with hi | hi; exact hi; show B + 3 ≤ i; omega, ?_, hfg.blk h.blk (fun e => by have := hown _ e; omega), hfg.blk h.res (fun e => by have := hown _ e; omega), h.map.stab (hfg.block _ h.map.lt (fun e => by have := hown _ e; omega)), h.fr.next hfg (fun i hi e => by have := hown _ e; omega), Nat.le_trans h.siz hfg.size, h.base⟩
  have h1 := (h.ws.mono (G := fun i => (B + 3 ≤ i ∧ (Value.slice Ao errs.length co).ownBlock ≠ some i) ∧ i < wr.heap.size) fun i hi hl => ⟨hi, hl⟩).fr hfg (fun k hk e => hk.1.2 e)
  refine h1.mono fun i hi hl => ⟨hi.1.1, fun e2 => ?_⟩
  rcases hat with hat | hat
  · rw [hat] at e2; exact hi.1.2 e2
  · rw [hat] at e2
    have h3 : W.heap.size = i := Option.some.inj e2
    have := hi.2
    omega
theorem FI.addW (h : FI w B N errs wrs Ao co Aw cw wr) {W2 w3 W4 w5 : World} {x : Wr} {A5 : Option Addr} {c5 : Nat} (hf2 : Fr No wr W2) (hm : MapIs w3 (B + 1 + 1) (namesM ((wrs ++ [x]).map Wr.key))) (hf3 : Fr (fun i => i = B + 1 + 1) W2 w3) (hf4 : Fr No w3 W4)
    (ho : Ow tWrO 117 w5 (fun i => (B + 3 ≤ i ∧ (Value.slice Ao errs.length co).ownBlock ≠ some i) ∨ W4.heap.size ≤ i) (.slice A5 (wrs ++ [x]).length c5) (wrs ++ [x])) (hg : W4.grownBy w5 (Value.slice Aw wrs.length cw).ownBlock) :
    FI w B N errs (wrs ++ [x]) Ao co A5 c5 (w5.setCell ⟨B + 1, 1, none⟩ (.slice A5 (wrs ++ [x]).length c5)) := by
  have hs := h.siz
  have hb := h.base
  have z2 := hf2.size
  have z3 := hf3.size
  have z4 := hf4.size
  have hown : ∀ k, (Value.slice Aw wrs.length cw).ownBlock = some k → B + 3 ≤ k ∧ (Value.slice Ao errs.length co).ownBlock ≠ some k := fun k hk => (h.ws.own hk).1
  have hf34 : Fr (fun i => i = B + 1 + 1) wr W4 := ((hf2.mono fun _ _ f => f.elim).trans (hf3.mono fun _ _ e => .inl e)).next hf4 (fun _ _ f => f.elim)
  have hf5 : Fr (fun i => i = B + 1 + 1 ∨ (Value.slice Aw wrs.length cw).ownBlock = some i) wr w5 := (hf34.mono fun _ _ e => .inl e).grown hg fun k hk => .inl (.inr hk)
  have hS : Fr (fun i => i = B + 1) w5 (w5.setCell ⟨B + 1, 1, none⟩ (.slice A5 (wrs ++ [x]).length c5)) := (Fr.refl (fun i => i = B + 1) w5).set ⟨B + 1, 1, none⟩ (.inl rfl) _
  have hout : ∀ k, (Value.slice Ao errs.length co).ownBlock = some k → B + 3 ≤ k ∧ k < wr.heap.size := fun k hk => h.out.own hk
  refine ⟨?_, ?_, ?_, ?_, ?_, ?_, ?_, h.base⟩
  · obtain ⟨cs, q1, q2, q3⟩ := h.out
    have ht : Ow (Ty.int .i64) 24 wr (fun i => (Value.slice Ao errs.length co).ownBlock = some i) (.slice Ao errs.length co) errs := ⟨cs, q1, q2.imp fun _ _ h => h, fun k hk => hk⟩
    refine ((ht.fr hf5 fun k hk e => ?_).fr hS fun k hk e => ?_).mono fun i hi hl => (hout i hi).1
    · have := (hout k hk).1
      rcases e with e | e
      · omega
      · exact (hown k e).2 hk
    · have := (hout k hk).1
      omega
  · refine (ho.mono (G := fun i => B + 3 ≤ i ∧ (Value.slice Ao errs.length co).ownBlock ≠ some i) fun i hi hl => ?_).fr hS fun k hk e => by have := hk.1; omega
    rcases hi with hi | hi
    · exact hi
    · exact ⟨by omega, fun e => by have := (hout i e).2; omega⟩
  · have h1 := hf5.blk h.blk (fun e => by rcases e with e | e; omega; have := (hown _ e).1; omega)
    have := blk_set h1 1 (.slice A5 (wrs ++ [x]).length c5)
    simpa using this
  · exact hS.blk (hf5.blk h.res (fun e => by rcases e with e | e; omega; have := (hown _ e).1; omega)) (fun e => by omega)
  · have hmlt := hm.lt
    have h1 := hm.stab (hf4.block _ hm.lt (fun f => f))
    have h2 : MapIs w5 (B + 1 + 1) (namesM ((wrs ++ [x]).map Wr.key)) := h1.stab (((Fr.refl (fun i => (Value.slice Aw wrs.length cw).ownBlock = some i) W4).grown hg fun k hk => .inl hk).block _ (by omega) (fun e => by have := (hown _ e).1; omega))
    have z5 := hg.size
    exact h2.stab (hS.block _ (by omega) (fun e => by omega))
  · refine (h.fr.next hf5 fun i hi e => ?_).next hS fun i hi e => ?_
    · rcases e with e | e
      · omega
      · have := (hown _ e).1; omega
    · omega
  · have z5 := hg.size
    have : (w5.setCell ⟨B + 1, 1, none⟩ (.slice A5 (wrs ++ [x]).length c5)).heap.size = w5.heap.size := by simp
    omega
end

theorem FI.run {w wr : World} {B : Nat} {N : Int} {errs : List Int} {wrs : List Wr} {Ao Aw : Option Addr} {co cw : Nat} (h : FI w B N errs wrs Ao co Aw cw wr) (e : Int) (hl : errs.length ≤ 1000) :
    ∃ A1 c1 w1, (Builtin.append_ #[37, 37] 37 #[.slice Ao errs.length co, .slice (some ⟨wr.heap.size, 0, none⟩) 1 1]).run Tryz.prog (wr.alloc (.cells #[.int .i64 e] 24)) = .ok (.slice A1 (errs.length + 1) c1) w1 ∧ FI w B N (errs ++ [e]) wrs A1 c1 Aw cw w1 := by
  have hf1 : Fr No wr (wr.alloc (.cells #[.int .i64 e] 24)) := (Fr.refl No wr).alloc _
  obtain ⟨A1, c1, w1, hrun, hO, hg, hat⟩ := run_ow_append (P := Tryz.prog) (ty := 37) (ty' := 37) (Ty.int .i64) (h.out.fr0 hf1) (.int .i64 0) 8 Tryz.underlying37 info_err rfl (by decide) (by decide) 1 (ys := [e]) (Row.single (t := Ty.int .i64) rfl) (At.block (heap_alloc_new wr _)) (by simp only [List.length_singleton]; omega)
  simp only [List.length_singleton] at hrun hO hat
  refine ⟨A1, c1, w1, hrun, h.addErr (W := wr.alloc (.cells #[.int .i64 e] 24)) hf1 ?_ hg ?_⟩
  · rw [List.length_append]; exact hO
  · rw [List.length_append]; exact hat
/-- A transaction's row of writes, of its own call. -/
theorem wro_at {w : World} {F : Nat → Prop} {A : Option Addr} {ws : List Wr} (h : Rd tWrO w F A ws) {i : Nat} (hi : i < ws.length) :
    ∃ ad A' c', A = some ad ∧ w.cell? (ad.add (i * 3)) = some (.string ws[i].key) ∧ w.cell? ⟨(ad.add (i * 3)).block, (ad.add (i * 3)).off + 1, none⟩ = some (.slice A' ws[i].row.length c') ∧
      w.cell? ⟨(ad.add (i * 3)).block, (ad.add (i * 3)).off + 2, none⟩ = some (.bool ws[i].gone) ∧ Ow Ty.u8 5 w F (.slice A' ws[i].row.length c') ws[i].row := by
  obtain ⟨ad, cs, e, hk, e0, e1⟩ := h.get' hi (by decide)
  obtain ⟨A', c', rfl, h1⟩ := tWrO_open hk
  exact ⟨ad, A', c', e, e0 _ rfl, e1 1 _ (by decide) rfl, e1 2 _ (by decide) rfl, h1⟩
end Go.Proofs.YtlmhphejgahfbaaGreatDoor
