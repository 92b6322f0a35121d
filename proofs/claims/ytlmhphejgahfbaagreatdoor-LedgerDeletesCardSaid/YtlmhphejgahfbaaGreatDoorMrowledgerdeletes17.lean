/- Texts of this claim, one behind the other: MapI, Led, New, Right. -/
import Derived.Test.YtlmhphejgahfbaaGreatDoorMrowledgerdeletes1
import Derived.MapKept
import Derived.Maps.Own
import Derived.Test.YtlmhphejgahfbaaGreatDoorProg
import Derived.Deep.RegionLaw
import Derived.Deep.RegionHeld3
import Derived.BigRegion
import Derived.Test.YtlmhphejgahfbaaGreatDoorMrowledgerdeletes14
import Derived.Test.YtlmhphejgahfbaaGreatDoorMrowledgerdeletes7
import Derived.Test.YtlmhphejgahfbaaGreatDoorMrowledgerdeletes12
import Derived.Deep.QuietTactic
import Derived.BigQuiet
/- Maps keyed by ints: what a block holds, and what the operations on it do (printed by genmapi.py). -/
set_option linter.unusedVariables false
set_option linter.unusedSimpArgs false
namespace Go.Proofs.YtlmhphejgahfbaaGreatDoor
open Go.RowKit Go.MapKept

/-! ### Lists of keys and values -/
def lookI {β : Type} (k : Int) : List (Int × β) → Option β
  | [] => none
  | p :: l => if p.1 = k then some p.2 else lookI k l
/-- A key's value in its place, else behind all. -/
def layI {β : Type} (k : Int) (v : β) : List (Int × β) → List (Int × β)
  | [] => [(k, v)]
  | p :: l => if p.1 = k then (k, v) :: l else p :: layI k v l
section
variable {β : Type} {k : Int} {v : β} {l : List (Int × β)}
theorem look_noneI (h : lookI k l = none) : ∀ p ∈ l, p.1 ≠ k := by
  induction l with
  | nil => intro p hp; cases hp
  | cons q l ih =>
    unfold lookI at h
    split at h
    · cases h
    · intro p hp
      rcases List.mem_cons.1 hp with rfl | hp
      · assumption
      · exact ih h p hp
theorem look_memI (h : lookI k l = some v) : (k, v) ∈ l := by
  induction l with
  | nil => cases h
  | cons q l ih =>
    unfold lookI at h
    split at h
    · rename_i e; injection h with h; subst e; subst h; exact List.mem_cons_self ..
    · exact List.mem_cons_of_mem _ (ih h)
theorem look_of_memI (hn : (l.map Prod.fst).Nodup) (h : (k, v) ∈ l) : lookI k l = some v := by
  induction l with
  | nil => cases h
  | cons q l ih =>
    rw [List.map_cons, List.nodup_cons] at hn
    unfold lookI
    rcases List.mem_cons.1 h with e | h
    · subst e; simp
    · rw [if_neg, ih hn.2 h]
      rintro rfl
      exact hn.1 (List.mem_map.2 ⟨_, h, rfl⟩)
theorem look_none_iffI : lookI k l = none ↔ k ∉ l.map Prod.fst := by
  constructor
  · intro h hm
    obtain ⟨p, hp, e⟩ := List.mem_map.1 hm
    exact look_noneI h p hp e
  · intro h
    cases hl : lookI k l with
    | none => rfl
    | some v => exact absurd (List.mem_map.2 ⟨_, look_memI hl, rfl⟩) h
theorem lay_keysI (k : Int) (v : β) (l : List (Int × β)) : (layI k v l).map Prod.fst = if lookI k l = none then l.map Prod.fst ++ [k] else l.map Prod.fst := by
  induction l with
  | nil => simp [layI, lookI]
  | cons q l ih =>
    unfold layI lookI
    by_cases h : q.1 = k
    · simp [h]
    · simp only [if_neg h, List.map_cons, ih]; split <;> rfl
theorem lay_nodupI (hn : (l.map Prod.fst).Nodup) : ((layI k v l).map Prod.fst).Nodup := by
  rw [lay_keysI]
  split
  · rename_i h
    refine List.nodup_append.2 ⟨hn, by simp, fun a ha b hb => ?_⟩
    obtain rfl : b = k := by simpa using hb
    rintro rfl
    exact look_none_iffI.1 h ha
  · exact hn
theorem look_layI (k' : Int) : lookI k' (layI k v l) = if k = k' then some v else lookI k' l := by
  induction l with
  | nil => unfold layI lookI; split <;> simp [lookI]
  | cons q l ih =>
    unfold layI
    by_cases h : q.1 = k
    · rw [if_pos h]; unfold lookI
      by_cases h2 : k = k'
      · simp [h2]
      · have : ¬ q.1 = k' := fun e => h2 (h.symm.trans e)
        simp [h2, this]
    · rw [if_neg h]; unfold lookI; rw [ih]
      by_cases h2 : k = k'
      · subst h2; simp [h]
      · simp [h2]
theorem mem_layI (hn : (l.map Prod.fst).Nodup) (p : Int × β) : p ∈ layI k v l ↔ p = (k, v) ∨ (p ∈ l ∧ p.1 ≠ k) := by
  constructor
  · intro h
    have h1 := look_of_memI (lay_nodupI hn) (show (p.1, p.2) ∈ layI k v l from h)
    rw [look_layI] at h1
    split at h1
    · rename_i e; injection h1 with h1; left; rw [e, h1]
    · rename_i e; exact .inr ⟨look_memI h1, fun e' => e e'.symm⟩
  · rintro (rfl | ⟨h, hne⟩)
    · exact look_memI (by rw [look_layI]; simp)
    · exact look_memI (k := p.1) (v := p.2) (by rw [look_layI, if_neg (fun e => hne e.symm)]; exact look_of_memI hn h)
theorem lay_lengthI : (layI k v l).length = if lookI k l = none then l.length + 1 else l.length := by
  induction l with
  | nil => simp [layI, lookI]
  | cons q l ih =>
    unfold layI lookI
    by_cases h : q.1 = k
    · simp [h]
    · simp only [if_neg h, List.length_cons, ih]; split <;> rfl
end

/-! ### A map's block -/
structure EsI (es : Array MapEntry) (clock : Nat) (l : List (Int × Value)) : Prop where
  ents : es.toList.map (fun e => (e.key, e.val)) = l.map fun p => (Value.int .i64 p.1, p.2)
  st : Stamped es clock
def MapII (w : World) (b : Nat) (l : List (Int × Value)) : Prop := ∃ es clock, w.heap[b]? = some (.map es clock) ∧ EsI es clock l

theorem EsI.keys {es : Array MapEntry} {clock : Nat} {l : List (Int × Value)} (h : EsI es clock l) : es.toList.map (·.key) = l.map fun p => Value.int .i64 p.1 := by
  have := congrArg (List.map Prod.fst) h.ents
  simpa [List.map_map, Function.comp_def] using this
theorem EsI.nodup {es : Array MapEntry} {clock : Nat} {l : List (Int × Value)} (h : EsI es clock l) : (l.map Prod.fst).Nodup := by
  have h1 := h.st.2.2
  rw [h.keys] at h1
  have h2 : (l.map Prod.fst).map (Value.int .i64) = l.map fun p => Value.int .i64 p.1 := by simp [List.map_map, Function.comp_def]
  rw [← h2] at h1
  exact (List.pairwise_map.1 h1).imp fun hne e => hne (by rw [e])
theorem EsI.isKey {es : Array MapEntry} {clock : Nat} {l : List (Int × Value)} (h : EsI es clock l) : ∀ x ∈ es.toList, IsKey (.int .i64) x.key := by
  intro x hx
  have : x.key ∈ es.toList.map (·.key) := List.mem_map.2 ⟨x, hx, rfl⟩
  rw [h.keys] at this
  obtain ⟨p, _, e⟩ := List.mem_map.1 this
  rw [← e]
  rfl
theorem EsI.at {es : Array MapEntry} {clock : Nat} {l : List (Int × Value)} (h : EsI es clock l) {j : Nat} {e : MapEntry} (he : es.toList[j]? = some e) : ∃ p, l[j]? = some p ∧ e.key = .int .i64 p.1 ∧ e.val = p.2 := by
  have := congrArg (fun x => x[j]?) h.ents
  simp only [List.getElem?_map, he, Option.map_some] at this
  cases hp : l[j]? with
  | none => rw [hp] at this; cases this
  | some p =>
    rw [hp] at this
    simp only [Option.map_some, Option.some.injEq, Prod.mk.injEq] at this
    exact ⟨p, rfl, this.1, this.2⟩
theorem EsI.size {es : Array MapEntry} {clock : Nat} {l : List (Int × Value)} (h : EsI es clock l) : es.size = l.length := by
  have := congrArg List.length h.ents
  simpa using this

theorem MapII.stab {w w' : World} {b : Nat} {l : List (Int × Value)} (h : MapII w b l) (k : w'.heap[b]? = w.heap[b]?) : MapII w' b l := by
  obtain ⟨es, c, hb, he⟩ := h
  exact ⟨es, c, k.trans hb, he⟩
theorem MapII.lt {w : World} {b : Nat} {l : List (Int × Value)} (h : MapII w b l) : b < w.heap.size := by
  obtain ⟨es, c, hb, he⟩ := h
  exact blk_lt hb
theorem MapII.nodup {w : World} {b : Nat} {l : List (Int × Value)} (h : MapII w b l) : (l.map Prod.fst).Nodup := by
  obtain ⟨es, c, hb, he⟩ := h
  exact he.nodup
theorem MapII.new (w : World) : MapII (w.alloc (.map #[] 0)) w.heap.size [] := ⟨#[], 0, heap_alloc_new w _, rfl, by simp, by simp, by simp⟩

section
variable {P : Program} {w : World} {b : Nat} {l : List (Int × Value)}
theorem find_nowI {es : Array MapEntry} {clock : Nat} (h : EsI es clock l) (k : Int) :
    (lookI k l = none ∧ Instr.findNow (.int .i64) (.int .i64 k) es.toList 0 = some none ∧ ∀ x ∈ es.toList, x.key ≠ .int .i64 k) ∨
    ∃ j v, lookI k l = some v ∧ Instr.findNow (.int .i64) (.int .i64 k) es.toList 0 = some (some (j, v)) ∧ l[j]? = some (k, v) ∧ ∃ e, es.toList[j]? = some e ∧ e.key = .int .i64 k := by
  rcases findNow_spec (d := .int .i64) (k := .int .i64 k) rfl es.toList 0 h.isKey with ⟨h1, h2⟩ | ⟨j, e, h1, h2, h3⟩
  · refine .inl ⟨?_, h1, h2⟩
    cases hl : lookI k l with
    | none => rfl
    | some v =>
      have hm := look_memI hl
      obtain ⟨j, hj⟩ := List.getElem?_of_mem hm
      have hlt : j < es.toList.length := by
        have := (List.getElem?_eq_some_iff.1 hj).1
        have := h.size
        simp; omega
      obtain ⟨p, hp, hk, _⟩ := h.at (List.getElem?_eq_getElem hlt)
      rw [hj] at hp
      injection hp with hp
      subst hp
      exact absurd hk (h2 _ (List.getElem_mem hlt))
  · obtain ⟨p, hp, hk, hv⟩ := h.at h2
    have e1 : p.1 = k := by rw [h3] at hk; injection hk with _ hk; exact hk.symm
    refine .inr ⟨j, e.val, ?_, by simpa using h1, ?_, e, h2, h3⟩
    · refine look_of_memI h.nodup ?_
      rw [← e1, hv]
      exact List.mem_of_getElem? hp
    · rw [hp, ← e1, hv]

/-- m[k], without 'ok' and with it. -/
theorem run_map_lookI (h : MapII w b l) (t kt et : TypeId) (ht : P.underlying t = some (.map kt et)) (hk : P.underlying kt = some (.int .i64)) (z : Value) (hz : (zeroValue et).run P w = .ok z w) (k : Int) :
    (Instr.lookup t (.map (some b)) (.int .i64 k) false).run P w = .ok ((lookI k l).getD z) w ∧
    (Instr.lookup t (.map (some b)) (.int .i64 k) true).run P w = .ok (.tuple #[(lookI k l).getD z, .bool (lookI k l).isSome]) w := by
  obtain ⟨es, c, hb, he⟩ := h
  rcases find_nowI he k with ⟨h1, h2, _⟩ | ⟨j, v, h1, h2, _⟩
  · constructor <;> simp [Instr.lookup, run_underlying ht, MapKept.run_getObj_map hb, MapKept.run_checkKey hk (show IsKey (.int .i64) (.int .i64 k) from rfl), MapKept.run_findKey hk h2, Result.andThen, hz, h1]
  · constructor <;> simp [Instr.lookup, run_underlying ht, MapKept.run_getObj_map hb, MapKept.run_checkKey hk (show IsKey (.int .i64) (.int .i64 k) from rfl), MapKept.run_findKey hk h2, Result.andThen, h1]

theorem lay_atI {β : Type} {l : List (Int × β)} {k : Int} {v v0 : β} (hn : (l.map Prod.fst).Nodup) {j : Nat} (hj : l[j]? = some (k, v0)) : layI k v l = l.set j (k, v) := by
  induction l generalizing j with
  | nil => simp at hj
  | cons q l ih =>
    rw [List.map_cons, List.nodup_cons] at hn
    cases j with
    | zero => obtain rfl : q = (k, v0) := by simpa using hj
              simp [layI]
    | succ j =>
      have hj' : l[j]? = some (k, v0) := by simpa using hj
      have : ¬ q.1 = k := by
        rintro rfl
        exact hn.1 (List.mem_map.2 ⟨_, List.mem_of_getElem? hj', rfl⟩)
      unfold layI
      rw [if_neg this, ih hn.2 hj']
      rfl
theorem lay_newI {β : Type} {l : List (Int × β)} {k : Int} {v : β} (h : lookI k l = none) : layI k v l = l ++ [(k, v)] := by
  induction l with
  | nil => rfl
  | cons q l ih =>
    unfold lookI at h
    split at h
    · cases h
    · rename_i hne
      unfold layI
      rw [if_neg hne, ih h]
      rfl

/-- m[k] = v. -/
theorem run_map_layI (h : MapII w b l) (t kt et : TypeId) (ht : P.underlying t = some (.map kt et)) (hk : P.underlying kt = some (.int .i64)) (k : Int) (v : Value) :
    ∃ w', (Instr.mapUpdate t (.map (some b)) (.int .i64 k) v).run P w = .ok () w' ∧ MapII w' b (layI k v l) ∧ Fr (fun i => i = b) w w' := by
  obtain ⟨es, c, hb, he⟩ := h
  have hfr : ∀ o, Fr (fun i => i = b) w { w with heap := w.heap.setIfInBounds b o } := fun o => ⟨rfl, rfl, rfl, by simp, fun i hi hn => (heap_set hb).2 i hn⟩
  rcases find_nowI he k with ⟨h1, h2, h3⟩ | ⟨j, v0, h1, h2, h4, e0, h5, h6⟩
  · refine ⟨{ w with heap := w.heap.setIfInBounds b (.map (es.push { key := .int .i64 k, val := v, born := c }) (c + 1)) }, ?_, ⟨_, _, (heap_set hb).1, ?_, stamped_push he.st h3⟩, hfr _⟩
    · simp [Instr.mapUpdate, run_underlying ht, MapKept.run_getObj_map hb, MapKept.run_checkKey hk (show IsKey (.int .i64) (.int .i64 k) from rfl), MapKept.run_findKey hk h2, MapKept.run_setObj_map _ hb, Result.andThen]
    · rw [lay_newI h1]
      simp [he.ents]
  · have hj : (es[j]?) = some e0 := by simpa using h5
    refine ⟨{ w with heap := w.heap.setIfInBounds b (.map (es.modify j fun e => { e with key := .int .i64 k, val := v }) c) }, ?_, ⟨_, _, (heap_set hb).1, ?_, stamped_modify he.st j _ (fun _ _ => rfl) (fun e _ h => ?_)⟩, hfr _⟩
    · simp [Instr.mapUpdate, run_underlying ht, MapKept.run_getObj_map hb, MapKept.run_checkKey hk (show IsKey (.int .i64) (.int .i64 k) from rfl), MapKept.run_findKey hk h2, MapKept.run_setObj_map _ hb, Result.andThen, hj, h6, run_keyThatStays (d := .int .i64) (show IsKey (.int .i64) (.int .i64 k) from rfl)]
    · rw [lay_atI he.nodup h4]
      apply List.ext_getElem?
      intro i
      have e1 := congrArg (fun x => x[i]?) he.ents
      simp only [List.getElem?_map] at e1
      simp only [List.getElem?_map, Array.getElem?_toList, Array.getElem?_modify, List.getElem?_set]
      by_cases hij : j = i
      · subst hij
        have hlt : j < l.length := (List.getElem?_eq_some_iff.1 h4).1
        simp [hj, hlt]
      · simp only [if_neg hij]
        rw [← e1]
        simp
    · rw [hj] at h
      injection h with h
      subst h
      exact h6.symm
theorem run_map_lenI (h : MapII w b l) : ∃ es c, w.heap[b]? = some (.map es c) ∧ es.size = l.length := by
  obtain ⟨es, c, hb, he⟩ := h
  exact ⟨es, c, hb, he.size⟩
end
/-! ### delete -/
def wipeI {β : Type} (k : Int) : List (Int × β) → List (Int × β)
  | [] => []
  | p :: l => if p.1 = k then l else p :: wipeI k l
section
variable {P : Program} {w : World} {b : Nat} {l : List (Int × Value)}
theorem wipe_noneI {β : Type} {k : Int} {l : List (Int × β)} (h : lookI k l = none) : wipeI k l = l := by
  induction l with
  | nil => rfl
  | cons q l ih =>
    unfold lookI at h
    split at h
    · cases h
    · rename_i hne; unfold wipeI; rw [if_neg hne, ih h]
theorem wipe_atI {β : Type} {k : Int} {v : β} {l : List (Int × β)} (hn : (l.map Prod.fst).Nodup) {j : Nat} (hj : l[j]? = some (k, v)) : wipeI k l = l.eraseIdx j := by
  induction l generalizing j with
  | nil => simp at hj
  | cons q l ih =>
    rw [List.map_cons, List.nodup_cons] at hn
    cases j with
    | zero => obtain rfl : q = (k, v) := by simpa using hj
              simp [wipeI]
    | succ j =>
      have hj' : l[j]? = some (k, v) := by simpa using hj
      have : ¬ q.1 = k := by
        rintro rfl
        exact hn.1 (List.mem_map.2 ⟨_, List.mem_of_getElem? hj', rfl⟩)
      unfold wipeI
      rw [if_neg this, ih hn.2 hj']
      rfl
theorem wipe_subI {β : Type} (k : Int) (l : List (Int × β)) : (wipeI k l).Sublist l := by
  induction l with
  | nil => exact List.Sublist.slnil
  | cons q l ih => unfold wipeI; split; exact List.sublist_cons_self _ _; exact ih.cons_cons q
theorem look_wipeI {β : Type} {k : Int} {l : List (Int × β)} (hn : (l.map Prod.fst).Nodup) (k' : Int) : lookI k' (wipeI k l) = if k = k' then none else lookI k' l := by
  induction l with
  | nil => unfold wipeI lookI; split <;> rfl
  | cons q l ih =>
    rw [List.map_cons, List.nodup_cons] at hn
    unfold wipeI
    by_cases h : q.1 = k
    · rw [if_pos h]
      by_cases h2 : k = k'
      · rw [if_pos h2]; subst h2; exact look_none_iffI.2 (h ▸ hn.1)
      · rw [if_neg h2]
        have hne : ¬ q.1 = k' := fun e => h2 (h.symm.trans e)
        unfold lookI; rw [if_neg hne]
        cases l <;> rfl
    · rw [if_neg h]; unfold lookI; rw [ih hn.2]
      by_cases h2 : k = k'
      · subst h2; simp [h]
      · simp [h2]
theorem map_eraseI {α β : Type} (f : α → β) (l : List α) (j : Nat) : (l.eraseIdx j).map f = (l.map f).eraseIdx j := by
  induction l generalizing j with
  | nil => rfl
  | cons q l ih =>
    cases j with
    | zero => rfl
    | succ j => simp [List.eraseIdx, ih]
/-- delete(m, k). -/
theorem run_map_wipeI (h : MapII w b l) (t kt et ty : TypeId) (ht : P.underlying t = some (.map kt et)) (hk : P.underlying kt = some (.int .i64)) (k : Int) :
    ∃ w', (Builtin.delete_ #[t, kt] ty #[.map (some b), .int .i64 k]).run P w = .ok (.tuple #[]) w' ∧ MapII w' b (wipeI k l) ∧ Fr (fun i => i = b) w w' := by
  obtain ⟨es, c, hb, he⟩ := h
  have hfr : ∀ o, Fr (fun i => i = b) w { w with heap := w.heap.setIfInBounds b o } := fun o => ⟨rfl, rfl, rfl, by simp, fun i hi hn => (heap_set hb).2 i hn⟩
  rcases find_nowI he k with ⟨h1, h2, h3⟩ | ⟨j, v0, h1, h2, h4, e0, h5, h6⟩
  · refine ⟨{ w with heap := w.heap.setIfInBounds b (.map es c) }, ?_, ⟨es, c, (heap_set hb).1, by rw [wipe_noneI h1]; exact he⟩, hfr _⟩
    simp [Builtin.delete_, run_underlying ht, MapKept.run_getObj_map hb, MapKept.run_checkKey hk (show IsKey (.int .i64) (.int .i64 k) from rfl), MapKept.run_findKey hk h2, MapKept.run_setObj_map _ hb, Result.andThen]
  · refine ⟨{ w with heap := w.heap.setIfInBounds b (.map (es.eraseIdxIfInBounds j) c) }, ?_, ⟨_, _, (heap_set hb).1, ?_, stamped_erase he.st j⟩, hfr _⟩
    · simp [Builtin.delete_, run_underlying ht, MapKept.run_getObj_map hb, MapKept.run_checkKey hk (show IsKey (.int .i64) (.int .i64 k) from rfl), MapKept.run_findKey hk h2, MapKept.run_setObj_map _ hb, Result.andThen]
    · rw [wipe_atI he.nodup h4, map_eraseI, ← he.ents, ← map_eraseI, Array.toList_eraseIdxIfInBounds]
end
end Go.Proofs.YtlmhphejgahfbaaGreatDoor
/- A ledger's block; store.Now, tx.New, Begin, of, Open: over its block and its map of transactions. -/
set_option linter.unusedVariables false
set_option linter.unusedSimpArgs false
namespace Go.Proofs.YtlmhphejgahfbaaGreatDoor
open Go.RowKit

set_option maxHeartbeats 400000 in
set_option maxRecDepth 100000 in
theorem store_now0 {w : World} {sb : Nat} {m : Value} {n : Int} (h : w.heap[sb]? = some (.cells #[m, .int .i64 n] 159)) : Calls Tryz.prog 45 #[.pointer (some ⟨sb, 0, none⟩)] w fun e w' => e = .returned (.int .i64 n) ∧ w' = w := by
  have c1 := blk_cell h 1
  simp at c1
  clear h
  go_enter Tryz.func45, Tryz.ntmps45
  go_wp2_with fail
  go_ret
  exact ⟨rfl, rfl⟩
set_option maxHeartbeats 400000 in
set_option maxRecDepth 100000 in
theorem tx_new_raw {w : World} (base : Int) : Calls Tryz.prog 44 #[.int .i64 base] w fun e w' => e = .returned (.pointer (some ⟨w.heap.size + 1, 0, none⟩)) ∧ w' = (w.alloc (.map #[] 0)).alloc (.cells #[.int .i64 base, .map (some w.heap.size)] 173) := by
  have hmm := @run_makeMap Tryz.prog
  go_enter Tryz.func44, Tryz.ntmps44
  go_wp2_with fail
  go_ret
  exact ⟨rfl, rfl⟩

theorem blk_new1 (w : World) (o o' : Obj) : ((w.drew.alloc o).alloc o').heap[w.heap.size]? = some o := by
  rw [Below.heap_alloc _ _ _ (by simp)]; exact heap_alloc_new w.drew o
theorem blk_new2 (w : World) (o o' : Obj) : ((w.drew.alloc o).alloc o').heap[w.heap.size + 1]? = some o' := by
  have := heap_alloc_new (w.drew.alloc o) o'; rwa [World.size_alloc] at this
/-- A ledger's block. -/
def LedB (w : World) (lb : Nat) (tabs : Value) (sb mb : Nat) (next : Int) (states : Value) : Prop := w.heap[lb]? = some (.cells #[tabs, .pointer (some ⟨sb, 0, none⟩), .map (some mb), .int .i64 next, states] 87)
/-- A new transaction's two blocks. -/
def Tx0 (w : World) (B xb : Nat) (base : Int) : Prop := B ≤ xb ∧ ∃ yb, B ≤ yb ∧ w.heap[xb]? = some (.cells #[.int .i64 base, .map (some yb)] 173) ∧ w.heap[yb]? = some (.map #[] 0)

set_option maxHeartbeats 1000000 in
set_option maxRecDepth 100000 in
theorem led_begin {w : World} {lb sb mb : Nat} {tabs m states : Value} {next n : Int} {l : List (Int × Value)} (hl : LedB w lb tabs sb mb next states) (hs : w.heap[sb]? = some (.cells #[m, .int .i64 n] 159)) (hm : MapII w mb l) (h1 : lb ≠ sb) (h2 : lb ≠ mb) (h3 : sb ≠ mb) (hn0 : 0 ≤ next) (hn : next < 9223372036854775807) :
    Calls Tryz.prog 11 #[.pointer (some ⟨lb, 0, none⟩)] w fun e w' => ∃ xb, e = .returned (.int .i64 (next + 1)) ∧ LedB w' lb tabs sb mb (next + 1) states ∧ MapII w' mb (layI (next + 1) (.pointer (some ⟨xb, 0, none⟩)) l) ∧ Tx0 w' w.heap.size xb n ∧ Fr (fun i => i = lb ∨ i = mb) w w' := by
  have c3 := blk_cell hl 3
  have z3 := blk_frozen hl 3
  simp at c3
  obtain ⟨V, hV⟩ : ∃ V, V = w.setCell ⟨lb, 3, none⟩ (.int .i64 (next + 1)) := ⟨_, rfl⟩
  have hlV : LedB V lb tabs sb mb (next + 1) states := by rw [hV]; exact blk_set hl 3 _
  have hsV : V.heap[sb]? = some (.cells #[m, .int .i64 n] 159) := by rw [hV]; exact blk_far hs (fun e => h1 e.symm) _
  have hmV : MapII V mb l := hm.stab (by rw [hV]; exact Below.heap_setCell _ _ _ _ (fun e => h2 e.symm))
  have hfV : Fr (fun i => i = lb ∨ i = mb) w V := by rw [hV]; exact (Fr.refl _ w).set _ (.inl (.inl rfl)) _
  have d1 := blk_cell hlV 1
  have d2 := blk_cell hlV 2
  have d3 := blk_cell hlV 3
  simp at d1 d2 d3
  have hrw : IntKind.i64.wrap (next + 1) = next + 1 := IntWalk.i64_in _ (by omega)
  obtain ⟨W, hW⟩ : ∃ W, W = (V.drew.alloc (.map #[] 0)).alloc (.cells #[.int .i64 n, .map (some V.heap.size)] 173) := ⟨_, rfl⟩
  have hfW : Fr No V W := by rw [hW]; exact ((Fr.refl No V).drew.alloc _).alloc _
  have hmW : MapII W mb l := hmV.stab (hfW.block _ hmV.lt (fun f => f))
  have hT : W.heap[V.heap.size + 1]? = some (.cells #[.int .i64 n, .map (some V.heap.size)] 173) ∧ W.heap[V.heap.size]? = some (.map #[] 0) := ⟨by rw [hW]; exact blk_new2 _ _ _, by rw [hW]; exact blk_new1 _ _ _⟩
  have hmlt := hm.lt
  obtain ⟨w7, hU, hM7, hF7⟩ := run_map_layI (P := Tryz.prog) (w := W) hmW 84 _ _ Tryz.underlying84 Tryz.underlying3 (next + 1) (.pointer (some ⟨V.heap.size + 1, 0, none⟩))
  have hszV : V.heap.size = w.heap.size := by rw [hV]; simp
  have q1 := hfW.cell d1 (fun f => f)
  have q2 := hfW.cell d2 (fun f => f)
  have q3 := hfW.cell d3 (fun f => f)
  have r1 := hF7.cell q1 (fun e => h2 e)
  have r2 := hF7.cell q2 (fun e => h2 e)
  have r3 := hF7.cell q3 (fun e => h2 e)
  have HN := Lib.hid fun (w' : World) (e : w'.heap = V.heap) => store_now0 (w := w') (e ▸ hsV)
  have H := Lib.hid (And.intro hM7 (And.intro hF7 (And.intro hfW (And.intro hfV (And.intro hlV (And.intro hT (And.intro h2 (And.intro hszV hmlt))))))))
  have HT := Lib.hid (show Calls Tryz.prog 44 #[.int .i64 n] V.drew fun e w' => e = .returned (.pointer (some ⟨V.heap.size + 1, 0, none⟩)) ∧ w' = W from (tx_new_raw n).mono (by rintro e w' ⟨rfl, rfl⟩; exact ⟨rfl, hW.symm⟩))
  clear hW
  clear hl hs hm hsV hmV hfV hmW hM7 hF7 hfW h1 h3 hT hlV h2 hszV hmlt
  go_enter Tryz.func11, Tryz.ntmps11
  go_wp2_with fail
  rw [← hV]
  clear hV
  go_region_held3 (fun w' => w'.cell? ⟨lb, 1, none⟩ = some (.pointer (some ⟨sb, 0, none⟩)) ∧ w'.cell? ⟨lb, 2, none⟩ = some (.map (some mb)) ∧ w'.cell? ⟨lb, 3, none⟩ = some (.int .i64 (next + 1)))
    (first | exact ⟨d1, d2, d3⟩ | exact ⟨q1, q2, q3⟩ | exact ⟨r1, r2, r3⟩)
    (first
      | (go_at_call 45; refine (HN.out V.drew rfl).mono ?_; rintro e5 w5 ⟨rfl, rfl⟩)
      | (go_at_call 44; refine HT.out.mono ?_; rintro e5 w5 ⟨rfl, rfl⟩))
  all_goals
    go_wp2_with fail
    go_ret
    obtain ⟨hM, hF7, hfW, hfV, hlV, ⟨t1, t2⟩, h2, hsz, hlt⟩ := H.out
    refine ⟨V.heap.size + 1, rfl, hF7.blk (hfW.blk hlV (fun f => f)) h2, hM, ⟨by omega, _, by omega, hF7.blk t1 (by omega), hF7.blk t2 (by omega)⟩, ?_⟩
    exact (hfV.trans (hfW.mono fun _ _ f => f.elim)).trans (hF7.mono fun _ _ e => .inl (.inr e))

theorem zero_txp (w : World) : (zeroValue 102).run Tryz.prog w = .ok (.pointer none) w := by kernel_rfl
set_option maxHeartbeats 1000000 in
set_option maxRecDepth 100000 in
theorem led_of {w : World} {lb sb mb : Nat} {tabs states : Value} {next : Int} {l : List (Int × Value)} (id : Int) (x : Option Addr) (hl : LedB w lb tabs sb mb next states) (hm : MapII w mb l) (h : lookI id l = x.map fun a => Value.pointer (some a)) :
    Calls Tryz.prog 46 #[.pointer (some ⟨lb, 0, none⟩), .int .i64 id] w fun e w' => e = .returned (.tuple #[.pointer x, .int .i64 (if x.isSome then 0 else 6)]) ∧ w' = w := by
  have c2 := blk_cell hl 2
  simp at c2
  have hr := (run_map_lookI (P := Tryz.prog) hm 84 _ _ Tryz.underlying84 Tryz.underlying3 _ (zero_txp w) id).1
  rw [h] at hr
  clear hl hm h
  cases x with
  | none =>
    simp only [Option.map_none, Option.getD_none] at hr
    go_enter Tryz.func46, Tryz.ntmps46
    go_wp2_with fail
    go_ret2
    exact ⟨rfl, rfl⟩
  | some a =>
    simp only [Option.map_some, Option.getD_some] at hr
    go_enter Tryz.func46, Tryz.ntmps46
    go_wp2_with fail
    go_ret2
    exact ⟨rfl, rfl⟩
set_option maxHeartbeats 1000000 in
set_option maxRecDepth 100000 in
theorem led_open {w : World} {lb sb mb : Nat} {tabs states : Value} {next : Int} {l : List (Int × Value)} (id : Int) (x : Option Addr) (hl : LedB w lb tabs sb mb next states) (hm : MapII w mb l) (h : lookI id l = x.map fun a => Value.pointer (some a)) :
    Calls Tryz.prog 25 #[.pointer (some ⟨lb, 0, none⟩), .int .i64 id] w fun e w' => e = .returned (.bool x.isSome) ∧ w' = w := by
  have H := Lib.hid (led_of id x hl hm h)
  clear hl hm h
  cases x with
  | none =>
    go_enter Tryz.func25, Tryz.ntmps25
    go_wp2_with fail
    refine H.out.mono ?_
    rintro e w1 ⟨rfl, rfl⟩
    go_wp2_with fail
    go_ret
    exact ⟨rfl, rfl⟩
  | some a =>
    go_enter Tryz.func25, Tryz.ntmps25
    go_wp2_with fail
    refine H.out.mono ?_
    rintro e w1 ⟨rfl, rfl⟩
    go_wp2_with fail
    go_ret
    exact ⟨rfl, rfl⟩
end Go.Proofs.YtlmhphejgahfbaaGreatDoor
/- store.New, ledger.New. -/
set_option linter.unusedVariables false
set_option linter.unusedSimpArgs false
namespace Go.Proofs.YtlmhphejgahfbaaGreatDoor
open Go.RowKit

set_option maxHeartbeats 400000 in
set_option maxRecDepth 100000 in
theorem store_new0 {w : World} : Calls Tryz.prog 40 #[] w fun e w' => e = .returned (.pointer (some ⟨w.heap.size + 1, 0, none⟩)) ∧ w' = (w.alloc (.map #[] 0)).alloc (.cells #[.map (some w.heap.size), .int .i64 0] 159) := by
  have hmm := @run_makeMap Tryz.prog
  go_enter Tryz.func40, Tryz.ntmps40
  go_wp2_with fail
  go_ret
  exact ⟨rfl, rfl⟩

theorem six_at (w : World) (o0 o1 o2 o3 o4 o5 : Obj) : let W := ((((((w.alloc o0).alloc o1).alloc o2).alloc o3).alloc o4).alloc o5).drew
    W.heap[w.heap.size + 1 + 1 + 1 + 1 + 1]? = some o5 ∧ W.heap[w.heap.size + 1 + 1 + 1 + 1]? = some o4 ∧ W.heap[w.heap.size + 1 + 1 + 1]? = some o3 ∧ W.heap[w.heap.size + 1 + 1]? = some o2 ∧ W.heap[w.heap.size + 1]? = some o1 := by
  refine ⟨?_, ?_, ?_, ?_, ?_⟩ <;> simp [World.alloc, World.drew, -World.alloc_eq, -World.drew_eq, Array.getElem?_push, Array.getElem_push]
/-- A new ledger over tables at A. -/
def NewAt (w : World) (B lb : Nat) (A : Option Addr) (n c : Nat) : Prop := ∃ sb vb mb gb, (B ≤ lb ∧ B ≤ sb ∧ B ≤ vb ∧ B ≤ mb ∧ B ≤ gb) ∧ w.heap[lb]? = some (.cells #[.slice A n c, .pointer (some ⟨sb, 0, none⟩), .map (some mb), .int .i64 0, .slice (some ⟨gb, 0, none⟩) 1 1] 87) ∧ w.heap[sb]? = some (.cells #[.map (some vb), .int .i64 0] 159) ∧ w.heap[vb]? = some (.map #[] 0) ∧ w.heap[mb]? = some (.map #[] 0) ∧ w.heap[gb]? = some (.cells #[.string firstD, .string dE, .string (sha []), .pointer none] 81)
set_option maxHeartbeats 1000000 in
set_option maxRecDepth 100000 in
theorem ledger_new {w : World} {F : Nat → Prop} {A : Option Addr} {c : Nat} {l : List Tab} (h : Rd tTab w F A l) (g : TabsOk l) (hk : KAt w) :
    Calls Tryz.prog 8 #[.slice A l.length c] w fun e w' => ∃ lb, e = .returned (.tuple #[.pointer (some ⟨lb, 0, none⟩), .int .i64 0]) ∧ NewAt w' w.heap.size lb A l.length c ∧ Fr No w w' := by
  have hr := tright_ok (c := c) h g
  have hmm := @run_makeMap Tryz.prog
  have H := Lib.hid (And.intro hr (And.intro (fun (w1 : World) (f : Fr No w w1) => first_ok (hk.fr0 f)) (And.intro (fun (w1 : World) (f : Fr No w w1) => mark_empty (hk.fr0 f)) (fun (w1 : World) (f : Fr No w w1) => sum_ok (G := No) (A := none) (c := 0) (p := []) Rd.nil (hk.fr0 f) (by simp)))))
  have HS := Lib.hid fun (w : World) => store_new0 (w := w)
  clear hr g hk h
  go_enter Tryz.func8, Tryz.ntmps8
  go_wp2_with fail
  refine H.out.1.mono ?_
  rintro e w1 ⟨rfl, hf1⟩
  have H1 := Lib.hid hf1
  clear hf1
  go_wp2_with fail
  refine (H.out.2.1 _ H1.out).mono ?_
  rintro e w2 ⟨rfl, hf2⟩
  have H2 := Lib.hid (H1.out.trans (hf2.mono fun _ _ f => f.elim))
  clear hf2
  go_wp2_with fail
  refine (H.out.2.2.1 _ H2.out).mono ?_
  rintro e w3 ⟨rfl, hf3⟩
  have H3 := Lib.hid (H2.out.trans (hf3.mono fun _ _ f => f.elim))
  clear hf3
  go_wp2_with fail
  refine (H.out.2.2.2 _ H3.out).mono ?_
  rintro e w4 ⟨rfl, hf4⟩
  have H4 := Lib.hid (H3.out.trans (hf4.mono fun _ _ f => f.elim))
  clear hf4
  go_wp2_with fail
  go_region_law
    (go_simp; go_at_call 40; refine (HS.out _).mono ?_; rintro e5 w5 ⟨rfl, rfl⟩)
  all_goals
    go_wp2_with fail
    go_ret2
    refine ⟨_, rfl, ?_, H4.out.trans (Fr.mono (F := No) (by repeat (first | exact Fr.refl No _ | apply Fr.drew | apply Fr.drewN | apply Fr.alloc)) (fun _ _ f => f.elim))⟩
    · unfold NewAt
      have hsz4 := H4.out.size
      obtain ⟨s5, s4, s3, s2, s1⟩ := six_at w4 _ _ _ _ _ _
      refine ⟨_, _, _, _, ?_, s5, (by first | exact s4 | exact s3 | exact s2 | exact s1), (by first | exact s4 | exact s3 | exact s2 | exact s1), (by first | exact s4 | exact s3 | exact s2 | exact s1), (by first | exact s4 | exact s3 | exact s2 | exact s1)⟩
      refine ⟨by omega, by omega, by omega, by omega, by omega⟩
end Go.Proofs.YtlmhphejgahfbaaGreatDoor
/- Layer 6 (record): may a batch be? -/
set_option linter.unusedVariables false
set_option linter.unusedSimpArgs false
namespace Go.Proofs.YtlmhphejgahfbaaGreatDoor
open Go.RowKit

set_option maxHeartbeats 1000000 in
theorem fits_ok {w : World} (k last : ByteArray) (g : Bool) (A : Option Addr) (c : Nat) (r : Bs) (hk : k.size ≤ 9223372036854775807) (hr : r.length ≤ 9223372036854775807) :
    Calls Tryz.prog 195 #[.agg #[.string k, .slice A r.length c, .bool g], .string last] w fun e w' => e = .returned (.bool (fits ⟨k, r, g⟩ last)) ∧ Fr No w w' := by
  have hf : fits ⟨k, r, g⟩ last = (decide (1 ≤ k.size) && decide (k.size ≤ 4000) && decide (r.length ≤ 4000) && (!(Op.bytesLess k.toList last.toList || k.toList == last.toList)) && (!g || decide (r.length = 0))) := by
    rw [kl_not]; rfl
  rw [hf]
  clear hf
  generalize r.length = n at *
  have e0 : decide (n = 0) = ((n : Int) == 0) := by rw [Bool.eq_iff_iff]; simp
  rw [e0]
  clear e0
  have hn0 : (0 : Int) ≤ (n : Int) := Int.natCast_nonneg _
  have hk0 : (0 : Int) ≤ (k.size : Int) := Int.natCast_nonneg _
  have HF := Lib.hid ((Fr.refl No w).alloc (.cells #[.string k, .slice A n c, .bool g] 117))
  by_cases h1 : 1 ≤ k.size
  · by_cases h2 : k.size ≤ 4000
    · by_cases h3 : n ≤ 4000
      · cases h4 : Op.bytesLess k.toList last.toList <;> cases h5 : (k.toList == last.toList)
        · cases g
          · go_enter Tryz.func195, Tryz.ntmps195
            go_wp2
            all_goals (go_ret; exact ⟨by simp [*], HF.out⟩)
          · cases h6 : ((n : Int) == 0)
            all_goals
              go_enter Tryz.func195, Tryz.ntmps195
              go_wp2
              all_goals (go_ret; exact ⟨by simp [*], HF.out⟩)
        all_goals
          go_enter Tryz.func195, Tryz.ntmps195
          go_wp2
          all_goals (go_ret; exact ⟨by simp [*], HF.out⟩)
      · go_enter Tryz.func195, Tryz.ntmps195
        go_wp2
        all_goals (go_ret; exact ⟨by simp [*], HF.out⟩)
    · go_enter Tryz.func195, Tryz.ntmps195
      go_wp2
      all_goals (go_ret; exact ⟨by simp [*], HF.out⟩)
  · go_enter Tryz.func195, Tryz.ntmps195
    go_wp2
    all_goals (go_ret; exact ⟨by simp [*], HF.out⟩)

/-- Each element's cells, wherever the loop stands. -/
theorem wr_at {w : World} {F : Nat → Prop} {A : Option Addr} {ws : List Wr} (h : Rd tWr w F A ws) {i : Nat} (hi : i < ws.length) :
    ∃ ad A' c', A = some ad ∧ w.cell? (ad.add (i * 3)) = some (.string ws[i].key) ∧ w.cell? ⟨(ad.add (i * 3)).block, (ad.add (i * 3)).off + 1, none⟩ = some (.slice A' ws[i].row.length c') ∧
      w.cell? ⟨(ad.add (i * 3)).block, (ad.add (i * 3)).off + 2, none⟩ = some (.bool ws[i].gone) ∧ ws[i].row.length ≤ c' ∧ Rd Ty.u8 w F A' ws[i].row := by
  obtain ⟨ad, cs, e, hk, e0, e1⟩ := h.get' hi (by decide)
  obtain ⟨A', c', rfl, h1, h2⟩ := tWr_open hk
  exact ⟨ad, A', c', e, e0 _ rfl, e1 1 _ (by decide) rfl, e1 2 _ (by decide) rfl, h1, h2⟩
def lastKey (last : ByteArray) (l : List Wr) : ByteArray := (l.getLast?.map Wr.key).getD last
theorem allFit_take {last : ByteArray} {l : List Wr} {i : Nat} (hi : i < l.length) : allFit last (l.take (i + 1)) = (allFit last (l.take i) && fits l[i] (lastKey last (l.take i))) := by
  rw [List.take_succ_eq_append_getElem hi, allFit_append]; rfl
theorem allFit_prefix {last : ByteArray} {l : List Wr} (i : Nat) (h : allFit last l = true) : allFit last (l.take i) = true := by
  induction l generalizing last i with
  | nil => simpa using h
  | cons y l ih =>
    cases i with
    | zero => rfl
    | succ i => simp only [allFit, Bool.and_eq_true, List.take_succ_cons] at h ⊢; exact ⟨h.1, ih _ h.2⟩
theorem lastKey_take {last : ByteArray} {l : List Wr} {i : Nat} (hi : i < l.length) : lastKey last (l.take (i + 1)) = l[i].key := by
  unfold lastKey; rw [List.take_succ_eq_append_getElem hi, List.getLast?_concat]; rfl

set_option maxHeartbeats 1000000 in
theorem right_ok {w : World} {F : Nat → Prop} (n : Int) (A : Option Addr) (c : Nat) (ws : List Wr) (h : Rd tWr w F A ws) (hl : ws.length ≤ 1000000000) (hk : ∀ x ∈ ws, x.key.size ≤ 9223372036854775807) :
    Calls Tryz.prog 143 #[.agg #[.int .i64 n, .slice A ws.length c]] w fun e w' => e = .returned (.bool (right n ws)) ∧ Fr No w w' := by
  have HR := Lib.hid h
  have HK := Lib.hid hk
  clear h hk
  go_enter Tryz.func143, Tryz.ntmps143
  go_wp2
  go_loopw [3, 9] (fun last i wr => ∃ k : Nat, k ≤ ws.length ∧ i = .int .i64 k ∧ last = .string (lastKey ⟨#[]⟩ (ws.take k)) ∧ Hid (allFit ⟨#[]⟩ (ws.take k) = true) ∧ Hid (Fr No (w.alloc (.cells #[.int .i64 n, .slice A ws.length c] 69)) wr)) (fun _ i _ => ws.length - (intOf i).toNat)
  case atStart => exact ⟨0, Nat.zero_le _, rfl, rfl, rfl, Fr.refl _ _⟩
  case round =>
    obtain ⟨k, hk, rfl, rfl, ha, hf⟩ := hrel
    have hb1 : wr.cell? ⟨w.heap.size, 1, none⟩ = some (.slice A ws.length c) := hf.out.cell (by simp) (fun f => f)
    have hb0 : wr.cell? ⟨w.heap.size, 0, none⟩ = some (.int .i64 n) := hf.out.cell (by simp) (fun f => f)
    have hwr : Fr No w wr := (((Fr.refl No w).alloc _).trans (hf.out.mono fun _ _ f => f.elim))
    have hn1 : (ws.length : Int) ≤ 1000000000 := by omega
    by_cases hlt : k < ws.length
    · obtain ⟨ad, A', c', rfl, x0, x1, x2, _, hrd⟩ := wr_at (HR.out.fr0 hwr) hlt
      have hrow : ws[k].row.length ≤ 9223372036854775807 := hrd.1
      have hfit := allFit_take (last := ⟨#[]⟩) hlt
      rw [ha.out, Bool.true_and] at hfit
      have hkey := lastKey_take (last := ⟨#[]⟩) hlt
      have hsz := HK.out _ (List.getElem_mem hlt)
      obtain ⟨x, hx⟩ : ∃ x, ws[k] = x := ⟨_, rfl⟩
      rw [hx] at x0 x1 x2 hfit hkey hsz hrow
      have hk0 : (0 : Int) ≤ (k : Int) := Int.natCast_nonneg _
      have hk1 : (k : Int) < (ws.length : Int) := by omega
      have HFit := Lib.hid (And.intro hfit (And.intro hkey hwr))
      clear hfit hkey hx hwr hrd
      cases hfx : fits x (lastKey ⟨#[]⟩ (ws.take k))
      · have hno : Hid (right n ws = false) := by
          have : allFit ⟨#[]⟩ ws = false := by
            cases hA : allFit ⟨#[]⟩ ws with
            | false => rfl
            | true => have := allFit_prefix (k + 1) hA; rw [HFit.out.1, hfx] at this; cases this
          show _ = _
          unfold right
          rw [this]; rfl
        go_wp2_with (go_at_call 195; refine (fits_ok _ _ _ _ _ _ hsz hrow).mono ?_; rintro e w1 ⟨rfl, hf1⟩; rw [show (⟨x.key, x.row, x.gone⟩ : Wr) = x from rfl, hfx])
        go_ret
        exact ⟨by rw [hno.out]; rfl, (HFit.out.2.2.alloc _).trans (hf1.mono fun _ _ f => f.elim)⟩
      · go_wp2_with (go_at_call 195; refine (fits_ok _ _ _ _ _ _ hsz hrow).mono ?_; rintro e w1 ⟨rfl, hf1⟩; rw [show (⟨x.key, x.row, x.gone⟩ : Wr) = x from rfl, hfx]
                     have hb5 : w1.cell? ⟨wr.heap.size, 0, none⟩ = some (.string x.key) := hf1.cell (by simp) (fun f => f))
        go_roundw
        case rel => exact ⟨k + 1, by omega, by go_num, by rw [HFit.out.2.1], by show _ = _; rw [HFit.out.1]; exact hfx, (hf.out.alloc _).trans (hf1.mono fun _ _ f => f.elim)⟩
        case measure => simp [intOf]; omega
    · obtain rfl : k = ws.length := by omega
      rw [List.take_length] at ha
      have hr : Hid (right n ws = (decide (1 ≤ n) && decide (1 ≤ ws.length) && decide (ws.length ≤ 64))) := by
        show _ = _
        unfold right
        rw [ha.out, Bool.true_and]
      by_cases h1 : 1 ≤ n
      · by_cases h2 : 1 ≤ ws.length
        · go_wp2
          go_ret
          exact ⟨by rw [hr.out, decide_eq_true h1, decide_eq_true h2]; simp; omega, hwr⟩
        · go_wp2
          go_ret
          exact ⟨by rw [hr.out, decide_eq_true h1, decide_eq_false h2]; rfl, hwr⟩
      · go_wp2
        go_ret
        exact ⟨by rw [hr.out, decide_eq_false (show ¬ 1 ≤ n by omega)]; rfl, hwr⟩
end Go.Proofs.YtlmhphejgahfbaaGreatDoor
