/- Layer 14 (tx): what it sees between two keys: plain functions. -/
import Derived.Test.YtkcppngopdiljaaSpec14
set_option linter.unusedVariables false
set_option linter.unusedSimpArgs false
namespace Go.Proofs.Ytkcppngopdiljaa

/-- Does a key lie between two? -/
def inB (lo hi k : ByteArray) : Bool := !kl k lo && (decide (hi.size = 0) || kl k hi)
def xget (ws : List Wr) (s : Sto) (a : Int) (k : ByteArray) : Option Bs :=
  match wfind k ws with
  | some x => if x.gone then none else some x.row
  | none => s.get a k
def xsel (ws : List Wr) (s : Sto) (a : Int) (lo hi k : ByteArray) : Option Item :=
  match xget ws s a k with
  | some row => if inB lo hi k then some (k, row) else none
  | none => none
def xall (ws : List Wr) (s : Sto) (a : Int) (lo hi : ByteArray) : List Item := (rise (s.kc.map Prod.fst ++ ws.map Wr.key)).filterMap (xsel ws s a lo hi)
def xscan (ws : List Wr) (s : Sto) (a : Int) (lo hi : ByteArray) (most : Int) : List Item := (xall ws s a lo hi).take most.toNat
def wsel (lo hi : ByteArray) (x : Wr) : Option Item := if !x.gone && inB lo hi x.key then some (x.key, x.row) else none

theorem inB_iff (lo hi k : ByteArray) : inB lo hi k = true ↔ kl k lo = false ∧ (hi.size = 0 ∨ kl k hi = true) := by
  unfold inB; cases kl k lo <;> simp

theorem nodup_sub {α : Type} [DecidableEq α] {l m : List α} (h : l.Nodup) (hs : ∀ x ∈ l, x ∈ m) : l.length ≤ m.length := by
  induction l generalizing m with
  | nil => simp
  | cons a l ih =>
    rw [List.nodup_cons] at h
    have ha := hs a (List.mem_cons_self ..)
    have := ih (m := m.erase a) h.2 fun x hx => (List.mem_erase_of_ne (by rintro rfl; exact h.1 hx)).2 (hs x (List.mem_cons_of_mem _ hx))
    rw [List.length_erase_of_mem ha] at this
    have : 0 < m.length := List.length_pos_of_mem ha
    simp only [List.length_cons]; omega

/-- Items that rise by their keys are told by their members. -/
theorem items_ext {l m : List Item} (hl : Rising (l.map Prod.fst)) (hm : Rising (m.map Prod.fst)) (h : ∀ p, p ∈ l ↔ p ∈ m) : l = m := by
  induction l generalizing m with
  | nil =>
    cases m with
    | nil => rfl
    | cons q m => exact absurd ((h q).2 (List.mem_cons_self ..)) (by simp)
  | cons p l ih =>
    cases m with
    | nil => exact absurd ((h p).1 (List.mem_cons_self ..)) (by simp)
    | cons q m =>
      obtain ⟨h1, h2⟩ := List.pairwise_cons.1 hl
      obtain ⟨k1, k2⟩ := List.pairwise_cons.1 hm
      have e : p = q := by
        rcases List.mem_cons.1 ((h p).1 (List.mem_cons_self ..)) with e | hp
        · exact e
        · rcases List.mem_cons.1 ((h q).2 (List.mem_cons_self ..)) with e | hq
          · exact e.symm
          · have a := k1 _ (List.mem_map_of_mem hp)
            have b := h1 _ (List.mem_map_of_mem hq)
            rw [kl_asymm a] at b; cases b
      subst e
      congr 1
      refine ih h2 k2 fun x => ⟨fun hx => ?_, fun hx => ?_⟩
      · rcases List.mem_cons.1 ((h x).1 (List.mem_cons_of_mem _ hx)) with e | hx'
        · subst e; have := h1 _ (List.mem_map_of_mem hx); rw [kl_irrefl] at this; cases this
        · exact hx'
      · rcases List.mem_cons.1 ((h x).2 (List.mem_cons_of_mem _ hx)) with e | hx'
        · subst e; have := k1 _ (List.mem_map_of_mem hx); rw [kl_irrefl] at this; cases this
        · exact hx'

theorem keyed_rising {β : Type} {ks : List β} {key : β → ByteArray} (h : Rising (ks.map key)) {f : β → Option Item} (hf : ∀ k p, f k = some p → p.1 = key k) : Rising ((ks.filterMap f).map Prod.fst) := by
  unfold Rising at *
  rw [List.pairwise_map] at *
  rw [List.pairwise_filterMap]
  exact h.imp fun hab p hp q hq => by rw [hf _ _ hp, hf _ _ hq]; exact hab

theorem xsel_some {ws : List Wr} {s : Sto} {a : Int} {lo hi k : ByteArray} {p : Item} : xsel ws s a lo hi k = some p ↔ p.1 = k ∧ xget ws s a k = some p.2 ∧ inB lo hi k = true := by
  unfold xsel
  cases hx : xget ws s a k with
  | none => simp
  | some row =>
    cases hb : inB lo hi k with
    | false => simp
    | true =>
      simp only [if_true, Option.some.injEq]
      constructor
      · rintro rfl; exact ⟨rfl, rfl, trivial⟩
      · rintro ⟨h1, h2, _⟩; rw [← h1, h2]
theorem xall_rising (ws : List Wr) (s : Sto) (a : Int) (lo hi : ByteArray) : Rising ((xall ws s a lo hi).map Prod.fst) := by
  refine keyed_rising (key := id) (by rw [List.map_id]; exact rising_rise _) fun k p h => (xsel_some.1 h).1
theorem mem_xall {ws : List Wr} {s : Sto} {a : Int} {lo hi : ByteArray} (p : Item) : p ∈ xall ws s a lo hi ↔ xget ws s a p.1 = some p.2 ∧ inB lo hi p.1 = true := by
  unfold xall
  rw [List.mem_filterMap]
  constructor
  · rintro ⟨k, _, hk⟩
    obtain ⟨rfl, h2, h3⟩ := xsel_some.1 hk
    exact ⟨h2, h3⟩
  · rintro ⟨h1, h2⟩
    refine ⟨p.1, ?_, xsel_some.2 ⟨rfl, h1, h2⟩⟩
    rw [mem_rise, List.mem_append]
    unfold xget at h1
    cases hf : wfind p.1 ws with
    | some x => exact .inr (by obtain ⟨hx, e⟩ := wfind_some hf; rw [← e]; exact List.mem_map_of_mem hx)
    | none =>
      rw [hf] at h1
      left
      refine Classical.byContradiction fun hn => ?_
      have := look_none_iff.2 hn
      unfold Sto.get Sto.of at h1
      rw [this] at h1
      simp [Chn.empty, Chn.get] at h1
      try cases h1

theorem mem_all {s : Sto} {a : Int} {lo hi : ByteArray} (hs : Rising (s.kc.map Prod.fst)) (p : Item) : p ∈ s.all a lo hi ↔ s.get a p.1 = some p.2 ∧ inB lo hi p.1 = true := by
  rw [Sto.all_eq, List.mem_filterMap]
  constructor
  · rintro ⟨q, hq, h⟩
    unfold Sto.sel at h
    cases hg : q.2.get a with
    | none => rw [hg] at h; cases h
    | some row =>
      rw [hg] at h
      simp only at h
      split at h
      · rename_i hb
        injection h with h
        subst h
        refine ⟨?_, (inB_iff _ _ _).2 hb⟩
        unfold Sto.get Sto.of
        rw [look_of_mem hs.nodup (show (q.1, q.2) ∈ s.kc from hq)]
        exact hg
      · cases h
  · rintro ⟨h1, h2⟩
    unfold Sto.get Sto.of at h1
    cases hl : look p.1 s.kc with
    | none => rw [hl] at h1; simp [Chn.empty, Chn.get] at h1; try cases h1
    | some c =>
      rw [hl] at h1
      refine ⟨(p.1, c), look_mem hl, ?_⟩
      unfold Sto.sel
      simp only [Option.getD_some] at h1
      simp only [h1]
      rw [if_pos ((inB_iff _ _ _).1 h2)]
theorem all_rising {s : Sto} {a : Int} {lo hi : ByteArray} (hs : Rising (s.kc.map Prod.fst)) : Rising ((s.all a lo hi).map Prod.fst) := by
  rw [Sto.all_eq]
  refine keyed_rising (key := Prod.fst) hs fun q p h => ?_
  unfold Sto.sel at h
  split at h
  · split at h
    · injection h with h; rw [← h]
    · cases h
  · cases h
theorem wsel_some {lo hi : ByteArray} {x : Wr} {p : Item} : wsel lo hi x = some p ↔ x.gone = false ∧ inB lo hi x.key = true ∧ p = (x.key, x.row) := by
  unfold wsel
  cases x.gone <;> cases inB lo hi x.key <;> simp [eq_comm]
theorem mem_wsel {ws : List Wr} (hr : Rising (ws.map Wr.key)) {lo hi : ByteArray} (p : Item) : p ∈ ws.filterMap (wsel lo hi) ↔ (∃ x, wfind p.1 ws = some x ∧ x.gone = false ∧ x.row = p.2) ∧ inB lo hi p.1 = true := by
  rw [List.mem_filterMap]
  constructor
  · rintro ⟨x, hx, h⟩
    obtain ⟨h1, h2, rfl⟩ := wsel_some.1 h
    refine ⟨⟨x, ?_, h1, rfl⟩, h2⟩
    have hf : wfind x.key ws ≠ none := fun e => (wfind_none.1 e) (List.mem_map_of_mem hx)
    cases hw : wfind x.key ws with
    | none => exact absurd hw hf
    | some y =>
      obtain ⟨hy, e⟩ := wfind_some hw
      congr 1
      have hn : ws.Pairwise fun a b => a.key ≠ b.key := (List.pairwise_map.1 hr).imp fun h => kl_ne h
      refine Classical.byContradiction fun hne => ?_
      obtain ⟨i, hi, rfl⟩ := List.mem_iff_getElem.1 hx
      obtain ⟨j, hj, rfl⟩ := List.mem_iff_getElem.1 hy
      rcases Nat.lt_trichotomy i j with h | h | h
      · exact List.pairwise_iff_getElem.1 hn i j hi hj h e.symm
      · subst h; exact hne rfl
      · exact List.pairwise_iff_getElem.1 hn j i hj hi h e
  · rintro ⟨⟨x, hf, h1, h2⟩, h3⟩
    obtain ⟨hx, e⟩ := wfind_some hf
    refine ⟨x, hx, wsel_some.2 ⟨h1, by rw [e]; exact h3, ?_⟩⟩
    rw [e, h2]

/-- Those of the store's of which it wrote nothing itself. -/
def free (ws : List Wr) (p : Item) : Bool := (wfind p.1 ws).isNone

theorem take_filter {α : Type} {l : List α} {f : α → Bool} {m : Nat} (h : ∀ x ∈ l.take m, f x = true) : (l.filter f).take m = l.take m := by
  have e : l.filter f = l.take m ++ (l.drop m).filter f := by
    conv => lhs; rw [← List.take_append_drop m l]
    rw [List.filter_append, List.filter_eq_self.2 h]
  rw [e, List.take_append, List.take_take, Nat.min_self]
  by_cases hm : m ≤ l.length
  · simp [List.length_take, Nat.min_eq_left hm]
  · rw [List.drop_eq_nil_of_le (by omega)]; simp

theorem free_many {ws : List Wr} {l : List Item} (hn : (l.map Prod.fst).Nodup) : l.length ≤ (l.filter (free ws)).length + ws.length := by
  have h1 : (l.filter fun p => !free ws p).length ≤ ws.length := by
    have := nodup_sub (l := ((l.filter fun p => !free ws p).map Prod.fst)) (m := ws.map Wr.key) ((List.filter_sublist.map _).nodup hn) fun k hk => by
      obtain ⟨p, hp, rfl⟩ := List.mem_map.1 hk
      obtain ⟨_, h2⟩ := List.mem_filter.1 hp
      refine Classical.byContradiction fun hc => ?_
      unfold free at h2
      rw [wfind_none.2 hc] at h2
      simp at h2
    simpa using this
  have h2 : l.length = (l.filter (free ws)).length + (l.filter fun p => !free ws p).length := by
    clear h1 hn
    induction l with
    | nil => rfl
    | cons p l ih => cases h : free ws p <;> simp [List.filter_cons, h, ih] <;> omega
  omega

theorem xscan_of {ws : List Wr} {s : Sto} {a : Int} {lo hi : ByteArray} {most : Int} {N : Nat} {out : List Item} (hr : Rising (ws.map Wr.key)) (hs : Rising (s.kc.map Prod.fst)) (hN : most.toNat + ws.length ≤ N ∨ s.kc.length ≤ N)
    (hso : Rising (out.map Prod.fst)) (hp : ∀ p, p ∈ out ↔ p ∈ ((s.all a lo hi).take N).filter (free ws) ∨ p ∈ ws.filterMap (wsel lo hi)) : out.take most.toNat = xscan ws s a lo hi most := by
  classical
  have hall := all_rising (a := a) (lo := lo) (hi := hi) hs
  have hX := xall_rising ws s a lo hi
  unfold xscan
  obtain ⟨T, hT⟩ : ∃ T, (s.all a lo hi).take N = T := ⟨_, rfl⟩
  obtain ⟨D, hD⟩ : ∃ D, (s.all a lo hi).drop N = D := ⟨_, rfl⟩
  have hTD : s.all a lo hi = T ++ D := by rw [← hT, ← hD, List.take_append_drop]
  rw [hT] at hp
  have hcross : ∀ x ∈ T, ∀ y ∈ D, kl x.1 y.1 = true := by
    have h1 := hall
    rw [hTD] at h1
    unfold Rising at h1
    rw [List.map_append, List.pairwise_append] at h1
    exact fun x hx y hy => h1.2.2 _ (List.mem_map_of_mem hx) _ (List.mem_map_of_mem hy)
  have hmX : ∀ p, p ∈ xall ws s a lo hi ↔ (p ∈ T ∧ free ws p = true) ∨ (p ∈ D ∧ free ws p = true) ∨ p ∈ ws.filterMap (wsel lo hi) := by
    intro p
    rw [mem_xall, mem_wsel hr]
    have hm := mem_all (a := a) (lo := lo) (hi := hi) hs p
    rw [hTD, List.mem_append] at hm
    unfold xget free
    cases hf : wfind p.1 ws with
    | none => simp only [Option.isNone_none, and_true]; constructor
              · intro h; exact (hm.2 h).imp id (fun h => .inl h)
              · rintro (h | h | ⟨⟨x, hx, _⟩, _⟩)
                · exact hm.1 (.inl h)
                · exact hm.1 (.inr h)
                · cases hx
    | some x =>
      simp only [Option.isNone_some, and_false, false_or, Bool.false_eq_true]
      constructor
      · rintro ⟨h1, h2⟩
        refine ⟨⟨x, rfl, ?_⟩, h2⟩
        cases hg : x.gone with
        | true => rw [hg] at h1; cases h1
        | false => rw [hg] at h1; exact ⟨rfl, by simpa using h1⟩
      · rintro ⟨⟨y, hy, h1, h2⟩, h3⟩
        injection hy with hy
        subst hy
        exact ⟨by rw [h1, h2]; rfl, h3⟩
  have hout : out = (xall ws s a lo hi).filter fun p : Item => decide (p.1 ∉ (D.filter (free ws)).map Prod.fst) := by
    refine items_ext hso ?_ fun p => ?_
    · exact hX.sublist (List.filter_sublist.map _)
    · rw [hp, List.mem_filter, List.mem_filter, hmX]
      simp only [decide_eq_true_eq]
      constructor
      · rintro (⟨h1, h2⟩ | h)
        · refine ⟨.inl ⟨h1, h2⟩, fun hc => ?_⟩
          obtain ⟨q, hq, e⟩ := List.mem_map.1 hc
          have := hcross p h1 q (List.mem_filter.1 hq).1
          rw [e, kl_irrefl] at this
          cases this
        · refine ⟨.inr (.inr h), fun hc => ?_⟩
          obtain ⟨q, hq, e⟩ := List.mem_map.1 hc
          have h2 := (List.mem_filter.1 hq).2
          obtain ⟨⟨x, hx, _⟩, _⟩ := (mem_wsel hr p).1 h
          unfold free at h2
          rw [e, hx] at h2
          cases h2
      · rintro ⟨h | ⟨h1, h2⟩ | h, hn⟩
        · exact .inl h
        · exact absurd (List.mem_map_of_mem (List.mem_filter.2 ⟨h1, h2⟩)) hn
        · exact .inr h
  rw [hout]
  refine take_filter fun p hpm => ?_
  simp only [decide_eq_true_eq]
  intro hc
  obtain ⟨q, hq, e⟩ := List.mem_map.1 hc
  obtain ⟨hqD, hqf⟩ := List.mem_filter.1 hq
  have hlen : (s.all a lo hi).length ≤ s.kc.length := by rw [Sto.all_eq]; exact List.length_filterMap_le _ _
  have hDl : D.length = (s.all a lo hi).length - N := by rw [← hD]; simp
  have hDp : 0 < D.length := List.length_pos_of_mem hqD
  have hN' : most.toNat + ws.length ≤ N := by rcases hN with h | h <;> omega
  have hTl : T.length = N := by rw [← hT]; simp; omega
  have hTn : (T.map Prod.fst).Nodup := by
    have := hall.nodup
    rw [hTD, List.map_append] at this
    exact (List.nodup_append.1 this).1
  have hm := free_many (ws := ws) hTn
  -- those of T all stand ahead of p
  have hsub : ∀ k ∈ p.1 :: (T.filter (free ws)).map Prod.fst, k ∈ ((xall ws s a lo hi).take most.toNat).map Prod.fst := by
    intro k hk
    rcases List.mem_cons.1 hk with rfl | hk
    · exact List.mem_map_of_mem hpm
    · obtain ⟨x, hx, rfl⟩ := List.mem_map.1 hk
      obtain ⟨hxT, hxf⟩ := List.mem_filter.1 hx
      have hxX := (hmX x).2 (.inl ⟨hxT, hxf⟩)
      have hlt := hcross x hxT q hqD
      rw [e] at hlt
      rw [← List.take_append_drop most.toNat (xall ws s a lo hi)] at hxX hX
      rcases List.mem_append.1 hxX with h | h
      · exact List.mem_map_of_mem h
      · unfold Rising at hX
        rw [List.map_append, List.pairwise_append] at hX
        have := hX.2.2 _ (List.mem_map_of_mem hpm) _ (List.mem_map_of_mem h)
        rw [kl_asymm this] at hlt
        cases hlt
  have hnd : (p.1 :: (T.filter (free ws)).map Prod.fst).Nodup := by
    rw [List.nodup_cons]
    refine ⟨fun hc => ?_, (List.filter_sublist.map _).nodup hTn⟩
    obtain ⟨x, hx, e2⟩ := List.mem_map.1 hc
    have := hcross x (List.mem_filter.1 hx).1 q hqD
    rw [e2, e, kl_irrefl] at this
    cases this
  have := nodup_sub hnd hsub
  simp at this
  have := List.length_take_le most.toNat (xall ws s a lo hi)
  omega
end Go.Proofs.Ytkcppngopdiljaa
