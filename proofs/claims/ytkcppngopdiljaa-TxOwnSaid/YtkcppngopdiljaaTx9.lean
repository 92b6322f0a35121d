/- slices.SortFunc at items, by their keys. -/
import Derived.Test.YtkcppngopdiljaaStore3o
import Derived.Test.YtkcppngopdiljaaShelf2
import Derived.Shelf.SlSortCmp.NoneTotal
set_option linter.unusedVariables false
set_option linter.unusedSimpArgs false
namespace Go.Proofs.Ytkcppngopdiljaa
open Go.RowKit Go.Shelf Go.Sort

/-- Which one stands ahead. -/
def cmpKey (a b : ByteArray) : Int := if kl a b then -1 else if kl b a then 1 else 0
theorem compare_ok (a b : ByteArray) (w : World) : Calls Try.prog 49 #[.string a, .string b] w fun e w' => e = .returned (.int .i64 (cmpKey a b)) ∧ w' = w := by
  have hn : ∀ x, Calls Try.prog 69 #[.string x] w fun e w' => e = .returned (.bool false) ∧ w' = w := by
    intro x
    go_enter Try.func69, Try.ntmps69
    go_wp2
    go_ret
    exact ⟨by simp, rfl⟩
  have H := Lib.hid hn
  clear hn
  have hc : ∀ (u : Int), cmpKey a b = u ↔ u = cmpKey a b := fun u => eq_comm
  have HC := Lib.hid hc
  clear hc
  have hb : (a.toList == b.toList) = (!Op.bytesLess a.toList b.toList && !Op.bytesLess b.toList a.toList) := by
    rw [beq_toList]
    cases h1 : Op.bytesLess a.toList b.toList with
    | true => exact decide_eq_false (kl_ne h1)
    | false =>
      cases h2 : Op.bytesLess b.toList a.toList with
      | true => exact decide_eq_false fun e => kl_ne h2 e.symm
      | false => exact decide_eq_true (kl_tri h1 h2)
  cases h1 : Op.bytesLess a.toList b.toList <;> cases h2 : Op.bytesLess b.toList a.toList
  all_goals
    have h3 : cmpKey a b = if kl a b then -1 else if kl b a then 1 else 0 := rfl
    unfold kl at h3
    rw [h1, h2] at h3 hb
    have H3 := Lib.hid h3
    clear h3
    simp only [Bool.not_true, Bool.not_false, Bool.and_true, Bool.and_false, Bool.true_and, Bool.false_and] at hb
    go_enter Try.func49, Try.ntmps49
    go_wp2_with (go_at_call 69; refine (H.out _).mono ?_; rintro e w' ⟨rfl, rfl⟩)
    go_ret
    exact ⟨by rw [H3.out]; rfl, rfl⟩

/-- An item, and where its row lies. -/
abbrev ItemR := Item × (Option Addr × Nat × Nat)
def encR (x : ItemR) : List Value := [.string x.1.1, .slice x.2.1 x.2.2.1 x.2.2.2]
def cfR (x y : ItemR) : Int := cmpKey x.1.1 y.1.1
theorem ltR (x y : ItemR) : ltOf cfR x y = kl x.1.1 y.1.1 := by
  unfold ltOf cfR cmpKey
  cases h1 : kl x.1.1 y.1.1 <;> cases h2 : kl y.1.1 x.1.1 <;> simp
theorem swoR : SWO (ltOf cfR) where
  irrefl x := by rw [ltR, kl_irrefl]
  trans x y z h1 h2 := by rw [ltR] at *; exact kl_trans h1 h2
  ntrans x y z h1 h2 := by
    rw [ltR] at *
    cases h : kl x.1.1 z.1.1 with
    | false => rfl
    | true =>
      cases h3 : kl y.1.1 x.1.1 with
      | true => rw [kl_trans h3 h] at h2; cases h2
      | false => rw [kl_tri h1 h3] at h; rw [h] at h2; cases h2

set_option maxHeartbeats 1000000 in
theorem scan2_fn (x y : ItemR) (W : World) : Calls Try.prog 48 #[.agg (encR x).toArray, .agg (encR y).toArray] W fun e w' => e = .returned (.int .i64 (cfR x y)) ∧ ∃ q os', w' = grow (W.drewN q) os' := by
  have H := Lib.hid (compare_ok x.1.1 y.1.1)
  obtain ⟨⟨k1, r1⟩, A1, n1, c1⟩ := x
  obtain ⟨⟨k2, r2⟩, A2, n2, c2⟩ := y
  unfold cfR
  dsimp only at H ⊢
  generalize cmpKey k1 k2 = r at H ⊢
  change Calls _ _ #[.agg #[.string k1, .slice A1 n1 c1], .agg #[.string k2, .slice A2 n2 c2]] _ _
  go_enter Try.func48, Try.ntmps48
  go_wp2_with (go_at_call 49; refine (H.out _).mono ?_; rintro e w' ⟨rfl, rfl⟩)
  go_ret
  exact ⟨rfl, 0, _, by rw [alloc_eq_grow, alloc_eq_grow, grow_grow]; rfl⟩

theorem row_itemR {w : World} {F : Nat → Prop} {xs : List Item} {cs : List Value} (h : Row tItemO w F xs cs) : ∃ d : List ItemR, d.map Prod.fst = xs ∧ cs = d.flatMap encR ∧ ∀ x ∈ d, tItemO.K w F x.1 (encR x) := by
  induction xs generalizing cs with
  | nil => exact ⟨[], rfl, h, fun x hx => by cases hx⟩
  | cons x xs ih =>
    obtain ⟨c, e, rfl, h1, h2⟩ := h
    obtain ⟨d, h3, rfl, h4⟩ := ih h2
    obtain ⟨A, c', rfl, h5⟩ := tItemO_open h1
    refine ⟨(x, A, x.2.length, c') :: d, by rw [List.map_cons, h3], rfl, fun y hy => ?_⟩
    rcases List.mem_cons.1 hy with rfl | hy
    · exact h1
    · exact h4 y hy
theorem row_itemR_mk {w : World} {F : Nat → Prop} {d : List ItemR} (h : ∀ x ∈ d, tItemO.K w F x.1 (encR x)) : Row tItemO w F (d.map Prod.fst) (d.flatMap encR) := by
  induction d with
  | nil => rfl
  | cons x d ih => exact ⟨encR x, d.flatMap encR, rfl, h x (List.mem_cons_self ..), ih fun y hy => h y (List.mem_cons_of_mem _ hy)⟩
theorem flat_get (d : List ItemR) : ∀ t, t < d.length * 2 → (d.flatMap encR)[t]? = some ((encR d[t / 2]!)[t % 2]!) := by
  induction d with
  | nil => intro t ht; simp at ht
  | cons x d ih =>
    intro t ht
    rw [List.flatMap_cons]
    match t with
    | 0 => rfl
    | 1 => rfl
    | t + 2 =>
      have e1 : (t + 2) / 2 = t / 2 + 1 := by omega
      have e2 : (t + 2) % 2 = t % 2 := by omega
      rw [List.getElem?_append_right (by show 2 ≤ t + 2; omega), show t + 2 - (encR x).length = t from rfl, ih t (by simp at ht; omega), e1, e2]
      rfl
theorem flatK_eq (d : List ItemR) : (flatK encR 2 d.toArray).toList = d.flatMap encR := by
  apply List.ext_getElem?
  intro t
  by_cases ht : t < d.length * 2
  · rw [flat_get d t ht]
    have h1 : t < (flatK encR 2 d.toArray).size := by rw [size_flatK]; simpa using ht
    have := get_flatK encR 2 d.toArray t (by simpa using ht)
    rw [getElem!_pos _ t h1] at this
    rw [Array.getElem?_toList, Array.getElem?_eq_getElem h1, this]
    simp
  · have h2 : (d.flatMap encR).length = d.length * 2 := by
      clear ht
      induction d with
      | nil => rfl
      | cons x d ih => rw [List.flatMap_cons, List.length_append, ih, List.length_cons]; show 2 + _ = _; omega
    rw [List.getElem?_eq_none (by rw [Array.length_toList, size_flatK]; simp; omega), List.getElem?_eq_none (by omega)]

theorem mapBlock_at {w : World} {g : Nat} {cur : Array Value} {e : TypeId} {fr : Nat × Nat} (hb : w.heap[g]? = some (.cells cur e fr)) (f : Array Value → Array Value) : (mapBlock w g f).heap[g]? = some (.cells (f cur) e fr) := by
  unfold mapBlock
  simp only [Array.getElem?_modify, if_true, hb, Option.map_some]
  rfl
theorem mapBlock_far {w : World} {g k : Nat} (f : Array Value → Array Value) (h : k ≠ g) : (mapBlock w g f).heap[k]? = w.heap[k]? := by
  unfold mapBlock
  simp only [Array.getElem?_modify, if_neg (fun e : g = k => h e.symm)]
theorem putCells_take {d cur : Array Value} (h : d.size ≤ cur.size) : (putCells id 0 d cur).toList.take d.size = d.toList := by
  apply List.ext_getElem?
  intro j
  rw [List.getElem?_take, Array.getElem?_toList, Array.getElem?_toList]
  unfold putCells
  rw [Array.getElem?_mapIdx]
  split
  · rename_i hj
    rw [Array.getElem?_eq_getElem (show j < cur.size by omega), Option.map_some, if_pos ⟨Nat.zero_le _, by omega⟩, Array.getElem?_eq_getElem hj]
    simp [getElem!_pos d j hj]
  · rename_i hj
    rw [Array.getElem?_eq_none (by omega)]

theorem key_nodup_sorted {d : Array ItemR} {n : Nat} (hs : SortedIn (ltOf cfR) 0 n d) (hn : n = d.size) (hd : (d.toList.map fun x => x.1.1).Nodup) : Rising (d.toList.map fun x => x.1.1) := by
  unfold Rising
  rw [List.pairwise_iff_getElem]
  intro i j hi hj hij
  simp only [List.length_map, Array.length_toList] at hi hj
  have h1 := hs i j (Nat.zero_le _) hij (by omega)
  rw [ltR, getElem!_pos d i hi, getElem!_pos d j hj] at h1
  have h2 : d[i].1.1 ≠ d[j].1.1 := by
    have := List.pairwise_iff_getElem.1 hd i j (by simpa using hi) (by simpa using hj) hij
    simpa using this
  simp only [List.getElem_map, Array.getElem_toList]
  cases h3 : kl d[i].1.1 d[j].1.1 with
  | true => rfl
  | false => exact absurd (kl_tri h3 h1) h2

set_option maxHeartbeats 1000000 in
theorem sort_items {w : World} {F : Nat → Prop} {A : Option Addr} {c : Nat} {xs : List Item} (h : Ow tItemO 65 w F (.slice A xs.length c) xs) (hl : xs.length ≤ 1000000000) (hnd : (xs.map Prod.fst).Nodup) :
    Calls Try.prog 47 #[.slice A xs.length c, .func (.func 48) #[] #[]] w fun e w' =>
      e = .returned (.tuple #[]) ∧ ∃ ys, ys.Perm xs ∧ Rising (ys.map Prod.fst) ∧ Ow tItemO 65 w' F (.slice A xs.length c) ys ∧ Fr (fun k => (Value.slice A xs.length c).ownBlock = some k) w w' := by
  obtain ⟨cs, ho1, ho2, ho3⟩ := h
  rcases ho1.2 with ⟨h5, h4⟩ | ⟨g, cap, cur, h4, _, hb, hnc, hcm, hsz, htk⟩
  · obtain rfl := List.eq_nil_of_length_eq_zero h4
    refine (AnyF.slices_SortFunc_none (P := Try.prog) (ρ := Try.sortF47_ren) Try.sortF47 A c _ w).mono ?_
    rintro e w' ⟨rfl, rfl⟩
    exact ⟨rfl, [], .refl _, List.Pairwise.nil, ⟨cs, ho1, ho2, ho3⟩, Fr.refl _ _⟩
  · injection h4 with h5 h6 h7
    subst h5
    subst h7
    obtain ⟨d, hd1, rfl, hd2⟩ := row_itemR ho2
    have hdl : d.length = xs.length := by rw [← hd1]; simp
    have hds : d.toArray.size = xs.length := by simpa using hdl
    have hH : HoldsK encR 2 w g 0 d.toArray := by
      intro j hj
      rw [size_flatK, hds] at hj
      refine ⟨?_, by rw [Nat.zero_add]; exact blk_frozen hb j⟩
      rw [Nat.zero_add, blk_cell hb, id_eq]
      have e1 : (flatK encR 2 d.toArray).toList[j]? = (d.flatMap encR)[j]? := by rw [flatK_eq]
      rw [Array.getElem?_toList, Array.getElem?_eq_getElem (by rw [size_flatK, hds]; exact hj)] at e1
      rw [getElem!_pos _ j (by rw [size_flatK, hds]; exact hj), e1, ← htk, List.getElem?_take, if_pos (show j < xs.length * tItemO.sz from hj), Array.getElem?_toList]
    have hcon := AnyQ.slices_SortFunc Try.sortF47 2 Try.isAgg65 Try.sizeOf65 encR (fun _ => rfl) (fun x v hv => by simp [encR] at hv; rcases hv with rfl | rfl <;> rfl) cfR swoR 48 #[] g 0 c d.toArray w
      (enters_of Try.func48 (by kernel_rfl) rfl) (fun _ _ _ _ x y => scan2_fn x y _) hH (blk_lt hb) (by rw [hds]; omega)
    rw [hds] at hcon
    refine Calls.mono hcon ?_
    rintro e w' ⟨rfl, d', n, os, hp, hs, rfl⟩
    have hsz' : d'.size = xs.length := hp.1.trans hds
    have hperm : d'.toList.Perm d := by
      have := hp.2.2
      rw [Array.extract_eq_self_of_le (by omega), Array.extract_eq_self_of_le (by omega)] at this
      simpa using this
    have hf : Fr (fun k => (Value.slice (some ⟨g, 0, none⟩) xs.length c).ownBlock = some k) w (sortWorldK encR 2 w g 0 n d' os) := by
      refine ⟨rfl, rfl, rfl, by simp [sortWorldK, putRowK, putRow, mapBlock, grow, Sort.ahead], fun k hk hn => ?_⟩
      have hne : k ≠ g := fun e => hn (by rw [e]; rfl)
      unfold sortWorldK grow putRowK putRow
      simp only []
      rw [Array.getElem?_append_left (by simp [mapBlock, Sort.ahead]; exact hk), mapBlock_far _ hne]
      rfl
    have hb' : (sortWorldK encR 2 w g 0 n d' os).heap[g]? = some (.cells (putCells id 0 (flatK encR 2 d') cur) 65 (0, 0)) := by
      unfold sortWorldK grow putRowK putRow
      simp only []
      rw [Array.getElem?_append_left (by simp [mapBlock, Sort.ahead]; exact blk_lt hb)]
      exact mapBlock_at (w := Sort.ahead w n) hb _
    have hcur : (flatK encR 2 d').size ≤ cur.size := by rw [size_flatK, hsz', hsz]; exact Nat.mul_le_mul_right 2 hnc
    have hflat : (flatK encR 2 d').toList = d'.toList.flatMap encR := by have := flatK_eq d'.toList; simpa using this
    have hkeys : (d'.toList.map fun x => x.1.1) = (d'.toList.map Prod.fst).map Prod.fst := by rw [List.map_map]; rfl
    have hpx : (d'.toList.map Prod.fst).Perm xs := by have := hperm.map Prod.fst; rwa [hd1] at this
    refine ⟨rfl, d'.toList.map Prod.fst, hpx, ?_, ⟨d'.toList.flatMap encR, ⟨?_, .inr ⟨g, c, _, ?_, Nat.zero_le _, hb', ?_, hcm, ?_, ?_⟩⟩, ?_, ho3⟩, hf⟩
    · rw [← hkeys]
      refine key_nodup_sorted hs hsz'.symm ?_
      rw [hkeys]
      exact (hpx.map Prod.fst).nodup_iff.2 hnd
    · rw [← hflat, Array.length_toList, size_flatK]; simp [hsz']; rfl
    · simp [hsz']
    · simpa [hsz'] using hnc
    · unfold putCells; simpa using hsz
    · have := putCells_take hcur
      rw [size_flatK] at this
      rw [List.length_map, Array.length_toList]
      show List.take (d'.size * 2) _ = _
      rw [this, hflat]
    · refine row_itemR_mk fun x hx => ?_
      have h1 := hd2 x (hperm.subset hx)
      exact (tItemO.stab h1 fun k hk hl => hf.block k hl hk.2)
end Go.Proofs.Ytkcppngopdiljaa
