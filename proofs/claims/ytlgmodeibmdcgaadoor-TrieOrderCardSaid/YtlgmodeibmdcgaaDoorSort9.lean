/- Keys: the closure that collects, each, slices.Sort of texts of one's own. -/
import Derived.Test.YtlgmodeibmdcgaaDoorGood
import Derived.Test.YtlgmodeibmdcgaaDoorShelf
import Derived.Sort.KeysCollected
set_option linter.unusedVariables false
set_option linter.unusedSimpArgs false
namespace Go.Proofs.YtlgmodeibmdcgaaDoor
open Go.RowKit

/-- Texts in a variable of their own. -/
def BoxS (N cb : Nat) (w : World) (l : List ByteArray) : Prop := ∃ A c, w.heap[cb]? = some (.cells #[.slice A l.length c] 57 (0, 0)) ∧ Ow Ty.str 9 w (fun i => N ≤ i ∧ i ≠ cb) (.slice A l.length c) l

set_option maxHeartbeats 2000000 in
set_option maxRecDepth 100000 in
theorem see_ok {N cb bx : Nat} {w : World} {l : List ByteArray} {k : ByteArray} (hb : BoxS N cb w l) (hN : N ≤ cb) (hx : w.cell? ⟨bx, 3, none⟩ = some (.string k)) (hbx : bx < N) (hl : l.length ≤ 1000000) :
    Calls Tryd.prog 50 #[.pointer (some ⟨bx, 0, none⟩), .pointer (some ⟨cb, 0, none⟩)] w fun e w' => e = .returned (.tuple #[]) ∧ BoxS N cb w' (l ++ [k]) ∧ Fr (fun i => N ≤ i) w w' := by
  obtain ⟨A, c, hbk, hO⟩ := hb
  have c0 := blk_cell hbk 0
  simp at c0
  have lb := blk_lt hbk
  have lx := World.block_lt_of_cell? w _ hx
  have hne : (Value.slice A l.length c).ownBlock ≠ some cb := fun e => (hO.own e).1.2 rfl
  have HH := Lib.hid (And.intro hbk (And.intro hO (And.intro hne (And.intro hN (And.intro hbx (And.intro hl lb))))))
  clear hbk hO hne hN hbx hl lx
  go_enter Tryd.func50, Tryd.ntmps50
  go_wp2_with fail
  go_region_law
    ((refine ow_append_step Ty.str (ys := [k]) (F := fun i => N ≤ i ∧ i ≠ cb) (HH.out.2.1.fr0 (by repeat (first | exact Fr.refl _ _ | apply Fr.alloc | apply Fr.drew | apply Fr.drewN))) _ _ (.string ⟨#[]⟩) 16 rfl rfl Tryd.underlying57 info_str rfl (by decide) (by decide) rfl rfl rfl
        (Row.single (t := Ty.str) rfl) (At.block (heap_alloc_new _ _)) (by have := HH.out.2.2.2.2.2.1; simp; omega) ?_
      intro A3 c3 w3 hown3 hg3 hat3
      have hf3 : Fr (fun i => N ≤ i) w w3 := Fr.grown (by repeat (first | exact Fr.refl _ _ | apply Fr.alloc | apply Fr.drew | apply Fr.drewN)) hg3 (fun i hi => .inl (HH.out.2.1.own hi).1.1)
      have hb3 : w3.heap[cb]? = some (.cells #[.slice A l.length c] 57 (0, 0)) := (hg3.block cb (by have := HH.out.2.2.2.2.2.2; simp; omega) (fun e => HH.out.2.2.1 e.symm)).trans (Fr.blk (F := No) (by repeat (first | exact Fr.refl _ _ | apply Fr.alloc | apply Fr.drew | apply Fr.drewN)) HH.out.1 (fun f => f))
      have k0 := blk_cell hb3 0
      have z0 := blk_frozen hb3 0
      simp at k0
      have hO3 : Ow Ty.str 9 w3 (fun i => N ≤ i ∧ i ≠ cb) (.slice A3 (l.length + 1) c3) (l ++ [k]) := hown3.mono fun i hi _ => by
        rcases hi with hi | hi
        · exact hi
        · have a1 := HH.out.2.2.2.1; have a2 := HH.out.2.2.2.2.2.2; simp at hi; exact ⟨by omega, by omega⟩
      have HB := Lib.hid (And.intro hb3 (And.intro hO3 hf3))
      clear hown3 hg3 hat3 hf3 hb3 hO3))
  all_goals
    go_wp2_with fail
    go_end0
    refine ⟨rfl, ⟨A3, c3, ?_, ?_⟩, HB.out.2.2.set _ (.inl HH.out.2.2.2.1) _⟩
    · rw [List.length_append]; exact blk_set HB.out.1 0 _
    · rw [List.length_append]; exact HB.out.2.1.fr (S := fun i => i = cb) ((Fr.refl (fun i => i = cb) w3).set ⟨cb, 0, none⟩ (.inl rfl) _) (fun i hi e => hi.2 e)

theorem BoxS.fr {S : Nat → Prop} {N cb : Nat} {w w' : World} {l : List ByteArray} (h : BoxS N cb w l) (f : Fr S w w') (hN : N ≤ cb) (hd : ∀ i, N ≤ i → ¬ S i) : BoxS N cb w' l := by
  obtain ⟨A, c, hb, hO⟩ := h
  exact ⟨A, c, f.blk hb (hd cb hN), hO.fr f fun i hi => hd i hi.1⟩
theorem BoxS.fr0 {N cb : Nat} {w w' : World} {l : List ByteArray} (h : BoxS N cb w l) (f : Fr No w w') : BoxS N cb w' l := by
  obtain ⟨A, c, hb, hO⟩ := h
  exact ⟨A, c, f.blk hb (fun f => f), hO.fr0 f⟩
theorem NodeAt.base {B N : Nat} {w0 w : World} {v : Value} {t : Tr} (h : NodeAt B w0 v t) (f : Fr (fun i => N ≤ i) w0 w) (hN : w0.heap.size ≤ N) : NodeAt B w v t := h.stab fun i _ hl => f.block i hl (by omega)

theorem see_enters (args : Array Value) (w : World) : Sem.run Tryd.prog (callFunc 50 args) w = .ok (.enter 50 args) w := enters_of Tryd.func50 (by kernel_rfl) rfl args w

set_option maxHeartbeats 2000000 in
set_option maxRecDepth 100000 in
theorem each_nil {w : World} (fv : Value) : Calls Tryd.prog 49 #[.pointer none, fv] w fun e w' => e = .returned (.tuple #[]) ∧ w' = w := by
  go_enter Tryd.func49, Tryd.ntmps49
  go_wp2_with fail
  go_end0
  exact ⟨rfl, rfl⟩
set_option maxHeartbeats 2000000 in
set_option maxRecDepth 100000 in
theorem each_leaf {w : World} {b cb : Nat} {P : World → Prop} (hs : Calls Tryd.prog 41 #[.pointer (some ⟨b, 0, none⟩)] w fun e w' => e = .returned (.bool true) ∧ w' = w)
    (hf : Calls Tryd.prog 50 #[.pointer (some ⟨b, 0, none⟩), .pointer (some ⟨cb, 0, none⟩)] w fun e w' => e = .returned (.tuple #[]) ∧ P w') :
    Calls Tryd.prog 49 #[.pointer (some ⟨b, 0, none⟩), .func (.func 50) #[] #[.pointer (some ⟨cb, 0, none⟩)]] w fun e w' => e = .returned (.tuple #[]) ∧ P w' := by
  have H := Lib.hid (And.intro hs hf)
  have he := see_enters
  clear hs hf
  go_enter Tryd.func49, Tryd.ntmps49
  go_wp2_with fail
  refine H.out.1.mono ?_
  rintro e w' ⟨rfl, rfl⟩
  go_wp2_with fail
  refine H.out.2.mono ?_
  rintro e w1 ⟨rfl, hp⟩
  have HP := Lib.hid hp
  clear hp
  go_wp2_with fail
  go_end0
  exact ⟨rfl, HP.out⟩
set_option maxHeartbeats 2000000 in
set_option maxRecDepth 100000 in
theorem each_node {w : World} {b : Nat} {fv vl vr : Value} {P Q : World → Prop} (hs : Calls Tryd.prog 41 #[.pointer (some ⟨b, 0, none⟩)] w fun e w' => e = .returned (.bool false) ∧ w' = w)
    (c0 : w.cell? ⟨b, 0, none⟩ = some vl)
    (hl : Calls Tryd.prog 49 #[vl, fv] w fun e w' => e = .returned (.tuple #[]) ∧ P w')
    (hP : ∀ w', P w' → w'.cell? ⟨b, 1, none⟩ = some vr)
    (hr : ∀ w', P w' → Calls Tryd.prog 49 #[vr, fv] w' fun e w'' => e = .returned (.tuple #[]) ∧ Q w'') :
    Calls Tryd.prog 49 #[.pointer (some ⟨b, 0, none⟩), fv] w fun e w' => e = .returned (.tuple #[]) ∧ Q w' := by
  have H := Lib.hid (And.intro hs (And.intro hl (And.intro hP hr)))
  clear hs hl hP hr
  go_enter Tryd.func49, Tryd.ntmps49
  go_wp2_with fail
  refine H.out.1.mono ?_
  rintro e w' ⟨rfl, rfl⟩
  go_wp2_with fail
  refine H.out.2.1.mono ?_
  rintro e w1 ⟨rfl, hp⟩
  have c1 := H.out.2.2.1 _ hp
  have HP := Lib.hid hp
  clear hp
  go_wp2_with fail
  refine (H.out.2.2.2 _ HP.out).mono ?_
  rintro e w2 ⟨rfl, hq⟩
  have HQ := Lib.hid hq
  clear hq
  go_wp2_with fail
  go_end0
  exact ⟨rfl, HQ.out⟩

theorem each_ok {B N cb : Nat} {w0 : World} (hw0 : w0.heap.size ≤ N) (hN : N ≤ cb) {t : Tr} : ∀ {v : Value} {w : World} {l : List ByteArray}, NodeAt B w0 v t → Fr (fun i => N ≤ i) w0 w → BoxS N cb w l → l.length + t.len ≤ 1000000 →
    Calls Tryd.prog 49 #[v, .func (.func 50) #[] #[.pointer (some ⟨cb, 0, none⟩)]] w fun e w' => e = .returned (.tuple #[]) ∧ BoxS N cb w' (l ++ t.keys) ∧ Fr (fun i => N ≤ i) w w' := by
  induction t with
  | nil =>
    intro v w l h f hb hl
    obtain rfl : v = _ := h
    refine (each_nil _).mono ?_
    rintro e w' ⟨rfl, rfl⟩
    exact ⟨rfl, by rw [show Tr.nil.keys = [] from rfl, List.append_nil]; exact hb, Fr.refl _ _⟩
  | leaf k r =>
    intro v w l h f hb hl
    have hn := h.base f hw0
    obtain ⟨b, A, c, rfl, _, h3, _⟩ := h
    have hlt := blk_lt h3
    exact each_leaf (single_ok hn) (see_ok hb hN (leaf_key hn) (by omega) (by have : (Tr.leaf k r).len = 1 := rfl; omega))
  | node tl tr ihl ihr =>
    intro v w l h f hb hl
    have hn := h.base f hw0
    obtain ⟨b, vl, vr, rfl, _, h3, h4, h5⟩ := h
    have hlt := blk_lt h3
    have hlen : (Tr.node tl tr).len = tl.len + tr.len := rfl
    have hkl : ∀ t : Tr, t.keys.length = t.len := by
      intro t
      induction t with
      | nil => rfl
      | leaf _ _ => rfl
      | node a b iha ihb => show (a.keys ++ b.keys).length = a.len + b.len; rw [List.length_append, iha, ihb]
    refine each_node (vl := vl) (vr := vr) (P := fun w' => BoxS N cb w' (l ++ tl.keys) ∧ Fr (fun i => N ≤ i) w w') (single_ok hn) (f.cell (blk_cell h3 0) (by show ¬ N ≤ b; omega)) (ihl h4 f hb (by omega)) (fun w' hp => ?_) (fun w' hp => ?_)
    · exact (f.next hp.2 (fun i _ e => e)).cell (blk_cell h3 1) (by show ¬ N ≤ b; omega)
    · have := ihr h5 (f.next hp.2 (fun i _ e => e)) hp.1 (by rw [List.length_append, hkl]; omega)
      refine this.mono ?_
      rintro e w'' ⟨rfl, h1, h2⟩
      exact ⟨rfl, by rw [show (Tr.node tl tr).keys = tl.keys ++ tr.keys from rfl, ← List.append_assoc]; exact h1, hp.2.next h2 (fun i _ e => e)⟩

/-! ### slices.Sort -/
open Go.Sort in
theorem rising_sorted {ks : List ByteArray} (h : Rising ks) {ss : List (List UInt8)} (hp : ss.Perm (ks.map fun k => k.data.toList)) : ss.mergeSort (fun x y => decide (x ≤ y)) = ks.map fun k => k.data.toList := by
  have h1 : ss.mergeSort leB = (ks.map fun k => k.data.toList).mergeSort leB := mergeSort_of_perm hp
  have h2 : (ks.map fun k => k.data.toList).mergeSort leB = ks.map fun k => k.data.toList := by
    refine List.mergeSort_of_pairwise (List.pairwise_map.2 (List.Pairwise.imp (fun {a b} hab => ?_) h))
    rw [kl_eq, toList_data, toList_data] at hab
    exact decide_eq_true (List.le_of_lt (of_decide_eq_true hab))
  show ss.mergeSort leB = _
  rw [h1, h2]
theorem row_str_eq {w : World} {F : Nat → Prop} {xs : List ByteArray} {cs : List Value} (h : Row Ty.str w F xs cs) : cs = xs.map Value.string := by
  induction xs generalizing cs with
  | nil => exact h
  | cons x xs ih =>
    obtain ⟨c, d, rfl, hc, hd⟩ := h
    obtain rfl : c = _ := hc
    rw [ih hd]; rfl
theorem row_str_mk {w : World} {F : Nat → Prop} (xs : List ByteArray) : Row Ty.str w F xs (xs.map Value.string) := by
  induction xs with
  | nil => rfl
  | cons x xs ih => exact ⟨_, _, rfl, rfl, ih⟩
open Go.Sort in
set_option maxRecDepth 100000 in
theorem sort_ok {w : World} {F : Nat → Prop} {A : Option Addr} {c : Nat} {l ks : List ByteArray} (h : Ow Ty.str 9 w F (.slice A l.length c) l) (hp : l.Perm ks) (hr : Rising ks) (hl : l.length ≤ 1000000) :
    Calls Tryd.prog 51 #[.slice A l.length c] w fun e w' => e = .returned (.tuple #[]) ∧ Rd Ty.str w' F A ks ∧ Fr F w w' := by
  have hlen := hp.length_eq
  obtain ⟨cs, h1, h2, h3⟩ := h
  rcases h1.2 with ⟨e0, hz⟩ | ⟨g, cap, cur, e0, hb, hg, hn, hm, hsz, htk⟩
  · injection e0 with ea eb ec
    subst ea; subst ec
    obtain rfl := List.eq_nil_of_length_eq_zero hz
    obtain rfl := List.eq_nil_of_length_eq_zero hlen.symm
    refine (Tryd.slices_Sort_string_none none 0 w).mono ?_
    rintro e w' ⟨rfl, rfl⟩
    exact ⟨rfl, Rd.nil, Fr.refl _ _⟩
  · injection e0 with ea eb ec
    subst ea; subst ec
    have hcs := row_str_eq h2
    obtain ⟨ss, hss⟩ : ∃ ss, l.map (fun k => k.data.toList) = ss := ⟨_, rfl⟩
    have hsl : ss.length = l.length := by rw [← hss, List.length_map]
    have hcell : ∀ j (hj : j < l.length), w.cell? ⟨g, j, none⟩ = some (.string l[j]) := fun j hj => by
      rw [h1.cellAt j (by show j < l.length * 1; omega), hcs, List.getElem?_map, List.getElem?_eq_getElem hj]; rfl
    have hH : Holds encStr w g 0 ss.toArray := fun j hj => by
      have hj' : j < l.length := by rw [List.size_toArray] at hj; omega
      have hj2 : j < ss.toArray.size := hj
      rw [Nat.zero_add]
      refine ⟨?_, h1.frozenAt j⟩
      have e1 : ss.toArray[j]! = l[j].data.toList := by
        rw [getElem!_pos ss.toArray j hj2, List.getElem_toArray]
        simp only [← hss, List.getElem_map]
      rw [hcell j hj', e1]
    have hlt := blk_lt hg
    have hc := Tryd.slices_Sort_string g 0 c ss w hH hlt (by omega)
    rw [hsl] at hc
    refine hc.mono ?_
    rintro e w' ⟨rfl, n, os, rfl⟩
    have hsorted : ss.mergeSort (fun x y => decide (x ≤ y)) = ks.map fun k => k.data.toList := rising_sorted hr (by rw [← hss]; exact hp.map _)
    rw [hsorted]
    have hH2 : Holds encStr (putRow encStr (Sort.ahead w n) g 0 (ks.map fun k => k.data.toList).toArray) g 0 (ks.map fun k => k.data.toList).toArray :=
      holds_putRow encStr (Sort.ahead w n) g 0 ss.toArray _ hH (by simp; omega)
    have hfr : Fr F w (grow (putRow encStr (Sort.ahead w n) g 0 (ks.map fun k => k.data.toList).toArray) os) := by
      refine ⟨rfl, rfl, rfl, by rw [size_grow, size_putRow]; show w.heap.size ≤ w.heap.size + _; omega, fun i hi hnF => ?_⟩
      rw [heap_grow_old _ _ (by rw [size_putRow]; exact hi)]
      show (w.heap.modify g _)[i]? = _
      rw [Array.getElem?_modify, if_neg]
      rintro rfl
      exact hnF (h3 g rfl)
    refine ⟨rfl, ⟨by omega, _, row_str_mk ks, fun j u hu => ⟨_, rfl, h3 g rfl, ?_⟩⟩, hfr⟩
    have hj : j < ks.length := by have := (List.getElem?_eq_some_iff.1 hu).1; simpa using this
    have hj2 : j < (ks.map fun k => k.data.toList).toArray.size := by simpa using hj
    rw [add0, cell?_grow _ _ _ (by rw [size_putRow]; exact hlt)]
    have := (hH2 j hj2).1
    rw [Nat.zero_add] at this
    rw [this, ← hu, getElem!_pos _ j hj2, List.getElem_toArray, List.getElem_map, List.getElem?_map, List.getElem?_eq_getElem hj]
    simp [encStr]
end Go.Proofs.YtlgmodeibmdcgaaDoor
