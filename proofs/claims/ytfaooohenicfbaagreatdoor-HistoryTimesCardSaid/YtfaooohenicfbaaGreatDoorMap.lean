/- Maps keyed by texts: what a block holds, and what the operations on it do. -/
import Derived.Test.YtfaooohenicfbaaGreatDoorSpec01
import Derived.MapKept
import Derived.Maps.Own
set_option linter.unusedVariables false
set_option linter.unusedSimpArgs false
namespace Go.Proofs.YtfaooohenicfbaaGreatDoor
open Go.RowKit Go.MapKept

/-! ### Lists of keys and values -/
def look {β : Type} (k : ByteArray) : List (ByteArray × β) → Option β
  | [] => none
  | p :: l => if p.1 = k then some p.2 else look k l
/-- A key's value in its place, else behind all. -/
def lay {β : Type} (k : ByteArray) (v : β) : List (ByteArray × β) → List (ByteArray × β)
  | [] => [(k, v)]
  | p :: l => if p.1 = k then (k, v) :: l else p :: lay k v l
section
variable {β : Type} {k : ByteArray} {v : β} {l : List (ByteArray × β)}
theorem look_none (h : look k l = none) : ∀ p ∈ l, p.1 ≠ k := by
  induction l with
  | nil => intro p hp; cases hp
  | cons q l ih =>
    unfold look at h
    split at h
    · cases h
    · intro p hp
      rcases List.mem_cons.1 hp with rfl | hp
      · assumption
      · exact ih h p hp
theorem look_mem (h : look k l = some v) : (k, v) ∈ l := by
  induction l with
  | nil => cases h
  | cons q l ih =>
    unfold look at h
    split at h
    · rename_i e; injection h with h; subst e; subst h; exact List.mem_cons_self ..
    · exact List.mem_cons_of_mem _ (ih h)
theorem look_of_mem (hn : (l.map Prod.fst).Nodup) (h : (k, v) ∈ l) : look k l = some v := by
  induction l with
  | nil => cases h
  | cons q l ih =>
    rw [List.map_cons, List.nodup_cons] at hn
    unfold look
    rcases List.mem_cons.1 h with e | h
    · subst e; simp
    · rw [if_neg, ih hn.2 h]
      rintro rfl
      exact hn.1 (List.mem_map.2 ⟨_, h, rfl⟩)
theorem look_none_iff : look k l = none ↔ k ∉ l.map Prod.fst := by
  constructor
  · intro h hm
    obtain ⟨p, hp, e⟩ := List.mem_map.1 hm
    exact look_none h p hp e
  · intro h
    cases hl : look k l with
    | none => rfl
    | some v => exact absurd (List.mem_map.2 ⟨_, look_mem hl, rfl⟩) h
theorem lay_keys (k : ByteArray) (v : β) (l : List (ByteArray × β)) : (lay k v l).map Prod.fst = if look k l = none then l.map Prod.fst ++ [k] else l.map Prod.fst := by
  induction l with
  | nil => simp [lay, look]
  | cons q l ih =>
    unfold lay look
    by_cases h : q.1 = k
    · simp [h]
    · simp only [if_neg h, List.map_cons, ih]; split <;> rfl
theorem lay_nodup (hn : (l.map Prod.fst).Nodup) : ((lay k v l).map Prod.fst).Nodup := by
  rw [lay_keys]
  split
  · rename_i h
    refine List.nodup_append.2 ⟨hn, by simp, fun a ha b hb => ?_⟩
    obtain rfl : b = k := by simpa using hb
    rintro rfl
    exact look_none_iff.1 h ha
  · exact hn
theorem look_lay (k' : ByteArray) : look k' (lay k v l) = if k = k' then some v else look k' l := by
  induction l with
  | nil => unfold lay look; split <;> simp [look]
  | cons q l ih =>
    unfold lay
    by_cases h : q.1 = k
    · rw [if_pos h]; unfold look
      by_cases h2 : k = k'
      · simp [h2]
      · have : ¬ q.1 = k' := fun e => h2 (h.symm.trans e)
        simp [h2, this]
    · rw [if_neg h]; unfold look; rw [ih]
      by_cases h2 : k = k'
      · subst h2; simp [h]
      · simp [h2]
theorem mem_lay (hn : (l.map Prod.fst).Nodup) (p : ByteArray × β) : p ∈ lay k v l ↔ p = (k, v) ∨ (p ∈ l ∧ p.1 ≠ k) := by
  constructor
  · intro h
    have h1 := look_of_mem (lay_nodup hn) (show (p.1, p.2) ∈ lay k v l from h)
    rw [look_lay] at h1
    split at h1
    · rename_i e; injection h1 with h1; left; rw [e, h1]
    · rename_i e; exact .inr ⟨look_mem h1, fun e' => e e'.symm⟩
  · rintro (rfl | ⟨h, hne⟩)
    · exact look_mem (by rw [look_lay]; simp)
    · exact look_mem (k := p.1) (v := p.2) (by rw [look_lay, if_neg (fun e => hne e.symm)]; exact look_of_mem hn h)
theorem lay_length : (lay k v l).length = if look k l = none then l.length + 1 else l.length := by
  induction l with
  | nil => simp [lay, look]
  | cons q l ih =>
    unfold lay look
    by_cases h : q.1 = k
    · simp [h]
    · simp only [if_neg h, List.length_cons, ih]; split <;> rfl
end

/-! ### A map's block -/
structure Es (es : Array MapEntry) (clock : Nat) (l : List (ByteArray × Value)) : Prop where
  ents : es.toList.map (fun e => (e.key, e.val)) = l.map fun p => (Value.string p.1, p.2)
  st : Stamped es clock
def MapIs (w : World) (b : Nat) (l : List (ByteArray × Value)) : Prop := ∃ es clock, w.heap[b]? = some (.map es clock) ∧ Es es clock l

theorem Es.keys {es : Array MapEntry} {clock : Nat} {l : List (ByteArray × Value)} (h : Es es clock l) : es.toList.map (·.key) = l.map fun p => Value.string p.1 := by
  have := congrArg (List.map Prod.fst) h.ents
  simpa [List.map_map, Function.comp_def] using this
theorem Es.nodup {es : Array MapEntry} {clock : Nat} {l : List (ByteArray × Value)} (h : Es es clock l) : (l.map Prod.fst).Nodup := by
  have h1 := h.st.2.2
  rw [h.keys] at h1
  have h2 : (l.map Prod.fst).map Value.string = l.map fun p => Value.string p.1 := by simp [List.map_map, Function.comp_def]
  rw [← h2] at h1
  exact (List.pairwise_map.1 h1).imp fun hne e => hne (by rw [e])
theorem Es.isKey {es : Array MapEntry} {clock : Nat} {l : List (ByteArray × Value)} (h : Es es clock l) : ∀ x ∈ es.toList, IsKey .string x.key := by
  intro x hx
  have : x.key ∈ es.toList.map (·.key) := List.mem_map.2 ⟨x, hx, rfl⟩
  rw [h.keys] at this
  obtain ⟨p, _, e⟩ := List.mem_map.1 this
  rw [← e]
  trivial
theorem Es.at {es : Array MapEntry} {clock : Nat} {l : List (ByteArray × Value)} (h : Es es clock l) {j : Nat} {e : MapEntry} (he : es.toList[j]? = some e) : ∃ p, l[j]? = some p ∧ e.key = .string p.1 ∧ e.val = p.2 := by
  have := congrArg (fun x => x[j]?) h.ents
  simp only [List.getElem?_map, he, Option.map_some] at this
  cases hp : l[j]? with
  | none => rw [hp] at this; cases this
  | some p =>
    rw [hp] at this
    simp only [Option.map_some, Option.some.injEq, Prod.mk.injEq] at this
    exact ⟨p, rfl, this.1, this.2⟩
theorem Es.size {es : Array MapEntry} {clock : Nat} {l : List (ByteArray × Value)} (h : Es es clock l) : es.size = l.length := by
  have := congrArg List.length h.ents
  simpa using this

theorem MapIs.stab {w w' : World} {b : Nat} {l : List (ByteArray × Value)} (h : MapIs w b l) (k : w'.heap[b]? = w.heap[b]?) : MapIs w' b l := by
  obtain ⟨es, c, hb, he⟩ := h
  exact ⟨es, c, k.trans hb, he⟩
theorem MapIs.lt {w : World} {b : Nat} {l : List (ByteArray × Value)} (h : MapIs w b l) : b < w.heap.size := by
  obtain ⟨es, c, hb, he⟩ := h
  exact blk_lt hb
theorem MapIs.nodup {w : World} {b : Nat} {l : List (ByteArray × Value)} (h : MapIs w b l) : (l.map Prod.fst).Nodup := by
  obtain ⟨es, c, hb, he⟩ := h
  exact he.nodup
theorem MapIs.new (w : World) : MapIs (w.alloc (.map #[] 0)) w.heap.size [] := ⟨#[], 0, heap_alloc_new w _, rfl, by simp, by simp, by simp⟩

section
variable {P : Program} {w : World} {b : Nat} {l : List (ByteArray × Value)}
theorem find_now {es : Array MapEntry} {clock : Nat} (h : Es es clock l) (k : ByteArray) :
    (look k l = none ∧ Instr.findNow .string (.string k) es.toList 0 = some none ∧ ∀ x ∈ es.toList, x.key ≠ .string k) ∨
    ∃ j v, look k l = some v ∧ Instr.findNow .string (.string k) es.toList 0 = some (some (j, v)) ∧ l[j]? = some (k, v) ∧ ∃ e, es.toList[j]? = some e ∧ e.key = .string k := by
  rcases findNow_spec (d := .string) (k := .string k) trivial es.toList 0 h.isKey with ⟨h1, h2⟩ | ⟨j, e, h1, h2, h3⟩
  · refine .inl ⟨?_, h1, h2⟩
    cases hl : look k l with
    | none => rfl
    | some v =>
      have hm := look_mem hl
      obtain ⟨j, hj⟩ := List.getElem?_of_mem hm
      have hlt : j < es.toList.length := by
        have := (List.getElem?_eq_some_iff.1 hj).1
        have := h.size
        simp; omega
      obtain ⟨p, hp, hk, _⟩ := h.at (List.getElem?_eq_getElem hlt)
      rw [hj] at hp
      injection hp with hp
      subst hp
      exact absurd hk (h2 _ (List.getElem_mem hlt))
  · obtain ⟨p, hp, hk, hv⟩ := h.at h2
    have e1 : p.1 = k := by rw [h3] at hk; injection hk with hk; exact hk.symm
    refine .inr ⟨j, e.val, ?_, by simpa using h1, ?_, e, h2, h3⟩
    · refine look_of_mem h.nodup ?_
      rw [← e1, hv]
      exact List.mem_of_getElem? hp
    · rw [hp, ← e1, hv]

/-- m[k], without 'ok' and with it. -/
theorem run_map_look (h : MapIs w b l) (t kt et : TypeId) (ht : P.underlying t = some (.map kt et)) (hk : P.underlying kt = some .string) (z : Value) (hz : (zeroValue et).run P w = .ok z w) (k : ByteArray) :
    (Instr.lookup t (.map (some b)) (.string k) false).run P w = .ok ((look k l).getD z) w ∧
    (Instr.lookup t (.map (some b)) (.string k) true).run P w = .ok (.tuple #[(look k l).getD z, .bool (look k l).isSome]) w := by
  obtain ⟨es, c, hb, he⟩ := h
  rcases find_now he k with ⟨h1, h2, _⟩ | ⟨j, v, h1, h2, _⟩
  · constructor <;> simp [Instr.lookup, run_underlying ht, MapKept.run_getObj_map hb, MapKept.run_checkKey hk (show IsKey .string (.string k) from trivial), MapKept.run_findKey hk h2, Result.andThen, hz, h1]
  · constructor <;> simp [Instr.lookup, run_underlying ht, MapKept.run_getObj_map hb, MapKept.run_checkKey hk (show IsKey .string (.string k) from trivial), MapKept.run_findKey hk h2, Result.andThen, h1]

theorem lay_at {β : Type} {l : List (ByteArray × β)} {k : ByteArray} {v v0 : β} (hn : (l.map Prod.fst).Nodup) {j : Nat} (hj : l[j]? = some (k, v0)) : lay k v l = l.set j (k, v) := by
  induction l generalizing j with
  | nil => simp at hj
  | cons q l ih =>
    rw [List.map_cons, List.nodup_cons] at hn
    cases j with
    | zero => obtain rfl : q = (k, v0) := by simpa using hj
              simp [lay]
    | succ j =>
      have hj' : l[j]? = some (k, v0) := by simpa using hj
      have : ¬ q.1 = k := by
        rintro rfl
        exact hn.1 (List.mem_map.2 ⟨_, List.mem_of_getElem? hj', rfl⟩)
      unfold lay
      rw [if_neg this, ih hn.2 hj']
      rfl
theorem lay_new {β : Type} {l : List (ByteArray × β)} {k : ByteArray} {v : β} (h : look k l = none) : lay k v l = l ++ [(k, v)] := by
  induction l with
  | nil => rfl
  | cons q l ih =>
    unfold look at h
    split at h
    · cases h
    · rename_i hne
      unfold lay
      rw [if_neg hne, ih h]
      rfl

/-- m[k] = v. -/
theorem run_map_lay (h : MapIs w b l) (t kt et : TypeId) (ht : P.underlying t = some (.map kt et)) (hk : P.underlying kt = some .string) (k : ByteArray) (v : Value) :
    ∃ w', (Instr.mapUpdate t (.map (some b)) (.string k) v).run P w = .ok () w' ∧ MapIs w' b (lay k v l) ∧ Fr (fun i => i = b) w w' := by
  obtain ⟨es, c, hb, he⟩ := h
  have hfr : ∀ o, Fr (fun i => i = b) w { w with heap := w.heap.setIfInBounds b o } := fun o => ⟨rfl, rfl, rfl, by simp, fun i hi hn => (heap_set hb).2 i hn⟩
  rcases find_now he k with ⟨h1, h2, h3⟩ | ⟨j, v0, h1, h2, h4, e0, h5, h6⟩
  · refine ⟨{ w with heap := w.heap.setIfInBounds b (.map (es.push { key := .string k, val := v, born := c }) (c + 1)) }, ?_, ⟨_, _, (heap_set hb).1, ?_, stamped_push he.st h3⟩, hfr _⟩
    · simp [Instr.mapUpdate, run_underlying ht, MapKept.run_getObj_map hb, MapKept.run_checkKey hk (show IsKey .string (.string k) from trivial), MapKept.run_findKey hk h2, MapKept.run_setObj_map _ hb, Result.andThen]
    · rw [lay_new h1]
      simp [he.ents]
  · have hj : (es[j]?) = some e0 := by simpa using h5
    refine ⟨{ w with heap := w.heap.setIfInBounds b (.map (es.modify j fun e => { e with key := .string k, val := v }) c) }, ?_, ⟨_, _, (heap_set hb).1, ?_, stamped_modify he.st j _ (fun _ _ => rfl) (fun e _ h => ?_)⟩, hfr _⟩
    · simp [Instr.mapUpdate, run_underlying ht, MapKept.run_getObj_map hb, MapKept.run_checkKey hk (show IsKey .string (.string k) from trivial), MapKept.run_findKey hk h2, MapKept.run_setObj_map _ hb, Result.andThen, hj, h6, run_keyThatStays (d := .string) (show IsKey .string (.string k) from trivial)]
    · rw [lay_at he.nodup h4]
      apply List.ext_getElem?
      intro i
      have e1 := congrArg (fun x => x[i]?) he.ents
      simp only [List.getElem?_map] at e1
      simp only [List.getElem?_map, Array.getElem?_toList, Array.getElem?_modify, List.getElem?_set]
      by_cases hij : j = i
      · subst hij
        have hlt : j < l.length := (List.getElem?_eq_some_iff.1 h4).1
        simp [hj, hlt]
      · simp only [if_neg hij]
        rw [← e1]
        simp
    · rw [hj] at h
      injection h with h
      subst h
      exact h6.symm
theorem run_map_len (h : MapIs w b l) : ∃ es c, w.heap[b]? = some (.map es c) ∧ es.size = l.length := by
  obtain ⟨es, c, hb, he⟩ := h
  exact ⟨es, c, hb, he.size⟩
end
end Go.Proofs.YtfaooohenicfbaaGreatDoor
