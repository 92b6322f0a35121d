/- Texts of this claim, one behind the other: Spec01, Map, RefT. -/
import Derived.Test.YtlmhphejgahfbaaGreatDoorMrowledgerdeletes1
import Derived.MapKept
import Derived.Maps.Own
import Derived.Test.YtlmhphejgahfbaaGreatDoorProg
import Derived.Test.YtlmhphejgahfbaaGreatDoorMrowledgerdeletes2
import Derived.Deep.QuietTactic
import Derived.BigQuiet
import Derived.Deep.RegionHeld3
import Derived.Deep.RegionLaw
/- Texts in their order, and lists of them that rise: plain functions and facts. -/
set_option linter.unusedVariables false
set_option linter.unusedSimpArgs false
namespace Go.Proofs.YtlmhphejgahfbaaGreatDoor

theorem toList_data (a : ByteArray) : a.toList = a.data.toList := ByteArray.toList_eq a
theorem less_lex : ∀ (x y : List UInt8), Op.bytesLess x y = decide (x < y)
  | [], [] => by simp [Op.bytesLess]
  | _ :: _, [] => by simp [Op.bytesLess]
  | [], _ :: _ => by simp [Op.bytesLess]
  | a :: x, b :: y => by
    rw [Op.bytesLess, less_lex x y, Bool.eq_iff_iff]
    simp only [List.cons_lt_cons_iff, Bool.or_eq_true, Bool.and_eq_true, decide_eq_true_eq, beq_iff_eq]
theorem toList_inj {a b : ByteArray} (h : a.toList = b.toList) : a = b := by
  rw [toList_data, toList_data] at h
  cases a; cases b
  simpa using h
/-- Does a text stand ahead of another? -/
def kl (a b : ByteArray) : Bool := Go.Op.bytesLess a.toList b.toList
theorem kl_eq (a b : ByteArray) : kl a b = decide (a.toList < b.toList) := less_lex _ _
theorem kl_irrefl (a : ByteArray) : kl a a = false := by rw [kl_eq]; exact decide_eq_false (List.lt_irrefl _)
theorem kl_trans {a b c : ByteArray} (h : kl a b = true) (k : kl b c = true) : kl a c = true := by
  rw [kl_eq] at *
  exact decide_eq_true (List.lt_trans (of_decide_eq_true h) (of_decide_eq_true k))
theorem kl_tri {a b : ByteArray} (h : kl a b = false) (k : kl b a = false) : a = b := by
  rw [kl_eq] at *
  exact toList_inj (List.le_antisymm (List.not_lt.1 (of_decide_eq_false k)) (List.not_lt.1 (of_decide_eq_false h)))
theorem kl_asymm {a b : ByteArray} (h : kl a b = true) : kl b a = false := by
  cases hb : kl b a with
  | false => rfl
  | true => have := kl_trans h hb; rw [kl_irrefl] at this; cases this
theorem kl_ne {a b : ByteArray} (h : kl a b = true) : a ≠ b := by rintro rfl; rw [kl_irrefl] at h; cases h
/-- The walk's word for '=='. -/
theorem beq_toList (a b : ByteArray) : (a.toList == b.toList) = decide (a = b) := by
  by_cases h : a = b
  · subst h; simp
  · rw [decide_eq_false h]
    exact beq_false_of_ne fun e => h (toList_inj e)

/-- Rising, each once. -/
def Rising (l : List ByteArray) : Prop := l.Pairwise fun a b => kl a b = true
theorem Rising.nodup {l : List ByteArray} (h : Rising l) : l.Nodup := List.Pairwise.imp (fun h => kl_ne h) h
/-- Two lists that rise, of the same texts, are one. -/
theorem Rising.ext {l m : List ByteArray} (hl : Rising l) (hm : Rising m) (h : ∀ x, x ∈ l ↔ x ∈ m) : l = m := by
  induction l generalizing m with
  | nil =>
    cases m with
    | nil => rfl
    | cons y m => exact absurd ((h y).2 (List.mem_cons_self ..)) (List.not_mem_nil)
  | cons x l ih =>
    cases m with
    | nil => exact absurd ((h x).1 (List.mem_cons_self ..)) (List.not_mem_nil)
    | cons y m =>
      obtain ⟨h1, h2⟩ := List.pairwise_cons.1 hl
      obtain ⟨h3, h4⟩ := List.pairwise_cons.1 hm
      have e : x = y := by
        rcases List.mem_cons.1 ((h x).1 (List.mem_cons_self ..)) with e | e
        · exact e
        · rcases List.mem_cons.1 ((h y).2 (List.mem_cons_self ..)) with e' | e'
          · exact e'.symm
          · have := kl_asymm (h1 y e'); rw [h3 x e] at this; cases this
      subst e
      congr 1
      refine ih h2 h4 fun z => ⟨fun hz => ?_, fun hz => ?_⟩
      · rcases List.mem_cons.1 ((h z).1 (List.mem_cons_of_mem _ hz)) with e | e
        · exact absurd e.symm (kl_ne (h1 z hz))
        · exact e
      · rcases List.mem_cons.1 ((h z).2 (List.mem_cons_of_mem _ hz)) with e | e
        · exact absurd e.symm (kl_ne (h3 z hz))
        · exact e
/-- A text laid into a list that rises. -/
def ins (k : ByteArray) : List ByteArray → List ByteArray
  | [] => [k]
  | x :: l => if kl k x then k :: x :: l else if k = x then x :: l else x :: ins k l
theorem mem_ins {k : ByteArray} {l : List ByteArray} (x : ByteArray) : x ∈ ins k l ↔ x = k ∨ x ∈ l := by
  induction l with
  | nil => simp [ins]
  | cons y l ih =>
    unfold ins
    split
    · simp
    · split
      · rename_i h1 h2; subst h2; simp
      · simp only [List.mem_cons, ih]; constructor
        · rintro (h | h | h) <;> simp [h]
        · rintro (h | h | h) <;> simp [h]
theorem rising_ins {k : ByteArray} {l : List ByteArray} (h : Rising l) : Rising (ins k l) := by
  induction l with
  | nil => exact List.pairwise_singleton _ _
  | cons y l ih =>
    obtain ⟨h1, h2⟩ := List.pairwise_cons.1 h
    unfold ins
    split
    · rename_i hk
      refine List.pairwise_cons.2 ⟨fun z hz => ?_, h⟩
      rcases List.mem_cons.1 hz with e | e
      · rw [e]; exact hk
      · exact kl_trans hk (h1 z e)
    · split
      · exact h
      · rename_i hk hne
        have hyk : kl y k = true := by
          cases hy : kl y k with
          | true => rfl
          | false => exact absurd (kl_tri (by simpa using hk) hy) hne
        refine List.pairwise_cons.2 ⟨fun z hz => ?_, ih h2⟩
        rcases (mem_ins z).1 hz with e | e
        · rw [e]; exact hyk
        · exact h1 z e
/-- All texts of a list, rising, each once. -/
def rise (l : List ByteArray) : List ByteArray := l.foldr ins []
theorem mem_rise {l : List ByteArray} (x : ByteArray) : x ∈ rise l ↔ x ∈ l := by
  induction l with
  | nil => simp [rise]
  | cons y l ih => show x ∈ ins y (rise l) ↔ _; rw [mem_ins, ih, List.mem_cons]
theorem rising_rise (l : List ByteArray) : Rising (rise l) := by
  induction l with
  | nil => exact List.Pairwise.nil
  | cons y l ih => exact rising_ins ih
theorem rise_length (l : List ByteArray) : (rise l).length ≤ l.length := by
  have hi : ∀ k (l : List ByteArray), (ins k l).length ≤ l.length + 1 := by
    intro k l
    induction l with
    | nil => simp [ins]
    | cons y l ih =>
      unfold ins
      split
      · simp
      · split
        · simp
        · simp only [List.length_cons]; omega
  induction l with
  | nil => simp [rise]
  | cons y l ih =>
    have := hi y (rise l)
    show (ins y (rise l)).length ≤ _
    simp only [List.length_cons]
    omega
end Go.Proofs.YtlmhphejgahfbaaGreatDoor
/- Maps keyed by texts: what a block holds, and what the operations on it do. -/
set_option linter.unusedVariables false
set_option linter.unusedSimpArgs false
namespace Go.Proofs.YtlmhphejgahfbaaGreatDoor
open Go.RowKit Go.MapKept

/-! ### Lists of keys and values -/
def look {β : Type} (k : ByteArray) : List (ByteArray × β) → Option β
  | [] => none
  | p :: l => if p.1 = k then some p.2 else look k l
/-- A key's value in its place, else behind all. -/
def lay {β : Type} (k : ByteArray) (v : β) : List (ByteArray × β) → List (ByteArray × β)
  | [] => [(k, v)]
  | p :: l => if p.1 = k then (k, v) :: l else p :: lay k v l
section
variable {β : Type} {k : ByteArray} {v : β} {l : List (ByteArray × β)}
theorem look_none (h : look k l = none) : ∀ p ∈ l, p.1 ≠ k := by
  induction l with
  | nil => intro p hp; cases hp
  | cons q l ih =>
    unfold look at h
    split at h
    · cases h
    · intro p hp
      rcases List.mem_cons.1 hp with rfl | hp
      · assumption
      · exact ih h p hp
theorem look_mem (h : look k l = some v) : (k, v) ∈ l := by
  induction l with
  | nil => cases h
  | cons q l ih =>
    unfold look at h
    split at h
    · rename_i e; injection h with h; subst e; subst h; exact List.mem_cons_self ..
    · exact List.mem_cons_of_mem _ (ih h)
theorem look_of_mem (hn : (l.map Prod.fst).Nodup) (h : (k, v) ∈ l) : look k l = some v := by
  induction l with
  | nil => cases h
  | cons q l ih =>
    rw [List.map_cons, List.nodup_cons] at hn
    unfold look
    rcases List.mem_cons.1 h with e | h
    · subst e; simp
    · rw [if_neg, ih hn.2 h]
      rintro rfl
      exact hn.1 (List.mem_map.2 ⟨_, h, rfl⟩)
theorem look_none_iff : look k l = none ↔ k ∉ l.map Prod.fst := by
  constructor
  · intro h hm
    obtain ⟨p, hp, e⟩ := List.mem_map.1 hm
    exact look_none h p hp e
  · intro h
    cases hl : look k l with
    | none => rfl
    | some v => exact absurd (List.mem_map.2 ⟨_, look_mem hl, rfl⟩) h
theorem lay_keys (k : ByteArray) (v : β) (l : List (ByteArray × β)) : (lay k v l).map Prod.fst = if look k l = none then l.map Prod.fst ++ [k] else l.map Prod.fst := by
  induction l with
  | nil => simp [lay, look]
  | cons q l ih =>
    unfold lay look
    by_cases h : q.1 = k
    · simp [h]
    · simp only [if_neg h, List.map_cons, ih]; split <;> rfl
theorem lay_nodup (hn : (l.map Prod.fst).Nodup) : ((lay k v l).map Prod.fst).Nodup := by
  rw [lay_keys]
  split
  · rename_i h
    refine List.nodup_append.2 ⟨hn, by simp, fun a ha b hb => ?_⟩
    obtain rfl : b = k := by simpa using hb
    rintro rfl
    exact look_none_iff.1 h ha
  · exact hn
theorem look_lay (k' : ByteArray) : look k' (lay k v l) = if k = k' then some v else look k' l := by
  induction l with
  | nil => unfold lay look; split <;> simp [look]
  | cons q l ih =>
    unfold lay
    by_cases h : q.1 = k
    · rw [if_pos h]; unfold look
      by_cases h2 : k = k'
      · simp [h2]
      · have : ¬ q.1 = k' := fun e => h2 (h.symm.trans e)
        simp [h2, this]
    · rw [if_neg h]; unfold look; rw [ih]
      by_cases h2 : k = k'
      · subst h2; simp [h]
      · simp [h2]
theorem mem_lay (hn : (l.map Prod.fst).Nodup) (p : ByteArray × β) : p ∈ lay k v l ↔ p = (k, v) ∨ (p ∈ l ∧ p.1 ≠ k) := by
  constructor
  · intro h
    have h1 := look_of_mem (lay_nodup hn) (show (p.1, p.2) ∈ lay k v l from h)
    rw [look_lay] at h1
    split at h1
    · rename_i e; injection h1 with h1; left; rw [e, h1]
    · rename_i e; exact .inr ⟨look_mem h1, fun e' => e e'.symm⟩
  · rintro (rfl | ⟨h, hne⟩)
    · exact look_mem (by rw [look_lay]; simp)
    · exact look_mem (k := p.1) (v := p.2) (by rw [look_lay, if_neg (fun e => hne e.symm)]; exact look_of_mem hn h)
theorem lay_length : (lay k v l).length = if look k l = none then l.length + 1 else l.length := by
  induction l with
  | nil => simp [lay, look]
  | cons q l ih =>
    unfold lay look
    by_cases h : q.1 = k
    · simp [h]
    · simp only [if_neg h, List.length_cons, ih]; split <;> rfl
end

/-! ### A map's block -/
structure Es (es : Array MapEntry) (clock : Nat) (l : List (ByteArray × Value)) : Prop where
  ents : es.toList.map (fun e => (e.key, e.val)) = l.map fun p => (Value.string p.1, p.2)
  st : Stamped es clock
def MapIs (w : World) (b : Nat) (l : List (ByteArray × Value)) : Prop := ∃ es clock, w.heap[b]? = some (.map es clock) ∧ Es es clock l

theorem Es.keys {es : Array MapEntry} {clock : Nat} {l : List (ByteArray × Value)} (h : Es es clock l) : es.toList.map (·.key) = l.map fun p => Value.string p.1 := by
  have := congrArg (List.map Prod.fst) h.ents
  simpa [List.map_map, Function.comp_def] using this
theorem Es.nodup {es : Array MapEntry} {clock : Nat} {l : List (ByteArray × Value)} (h : Es es clock l) : (l.map Prod.fst).Nodup := by
  have h1 := h.st.2.2
  rw [h.keys] at h1
  have h2 : (l.map Prod.fst).map Value.string = l.map fun p => Value.string p.1 := by simp [List.map_map, Function.comp_def]
  rw [← h2] at h1
  exact (List.pairwise_map.1 h1).imp fun hne e => hne (by rw [e])
theorem Es.isKey {es : Array MapEntry} {clock : Nat} {l : List (ByteArray × Value)} (h : Es es clock l) : ∀ x ∈ es.toList, IsKey .string x.key := by
  intro x hx
  have : x.key ∈ es.toList.map (·.key) := List.mem_map.2 ⟨x, hx, rfl⟩
  rw [h.keys] at this
  obtain ⟨p, _, e⟩ := List.mem_map.1 this
  rw [← e]
  trivial
theorem Es.at {es : Array MapEntry} {clock : Nat} {l : List (ByteArray × Value)} (h : Es es clock l) {j : Nat} {e : MapEntry} (he : es.toList[j]? = some e) : ∃ p, l[j]? = some p ∧ e.key = .string p.1 ∧ e.val = p.2 := by
  have := congrArg (fun x => x[j]?) h.ents
  simp only [List.getElem?_map, he, Option.map_some] at this
  cases hp : l[j]? with
  | none => rw [hp] at this; cases this
  | some p =>
    rw [hp] at this
    simp only [Option.map_some, Option.some.injEq, Prod.mk.injEq] at this
    exact ⟨p, rfl, this.1, this.2⟩
theorem Es.size {es : Array MapEntry} {clock : Nat} {l : List (ByteArray × Value)} (h : Es es clock l) : es.size = l.length := by
  have := congrArg List.length h.ents
  simpa using this

theorem MapIs.stab {w w' : World} {b : Nat} {l : List (ByteArray × Value)} (h : MapIs w b l) (k : w'.heap[b]? = w.heap[b]?) : MapIs w' b l := by
  obtain ⟨es, c, hb, he⟩ := h
  exact ⟨es, c, k.trans hb, he⟩
theorem MapIs.lt {w : World} {b : Nat} {l : List (ByteArray × Value)} (h : MapIs w b l) : b < w.heap.size := by
  obtain ⟨es, c, hb, he⟩ := h
  exact blk_lt hb
theorem MapIs.nodup {w : World} {b : Nat} {l : List (ByteArray × Value)} (h : MapIs w b l) : (l.map Prod.fst).Nodup := by
  obtain ⟨es, c, hb, he⟩ := h
  exact he.nodup
theorem MapIs.new (w : World) : MapIs (w.alloc (.map #[] 0)) w.heap.size [] := ⟨#[], 0, heap_alloc_new w _, rfl, by simp, by simp, by simp⟩

section
variable {P : Program} {w : World} {b : Nat} {l : List (ByteArray × Value)}
theorem find_now {es : Array MapEntry} {clock : Nat} (h : Es es clock l) (k : ByteArray) :
    (look k l = none ∧ Instr.findNow .string (.string k) es.toList 0 = some none ∧ ∀ x ∈ es.toList, x.key ≠ .string k) ∨
    ∃ j v, look k l = some v ∧ Instr.findNow .string (.string k) es.toList 0 = some (some (j, v)) ∧ l[j]? = some (k, v) ∧ ∃ e, es.toList[j]? = some e ∧ e.key = .string k := by
  rcases findNow_spec (d := .string) (k := .string k) trivial es.toList 0 h.isKey with ⟨h1, h2⟩ | ⟨j, e, h1, h2, h3⟩
  · refine .inl ⟨?_, h1, h2⟩
    cases hl : look k l with
    | none => rfl
    | some v =>
      have hm := look_mem hl
      obtain ⟨j, hj⟩ := List.getElem?_of_mem hm
      have hlt : j < es.toList.length := by
        have := (List.getElem?_eq_some_iff.1 hj).1
        have := h.size
        simp; omega
      obtain ⟨p, hp, hk, _⟩ := h.at (List.getElem?_eq_getElem hlt)
      rw [hj] at hp
      injection hp with hp
      subst hp
      exact absurd hk (h2 _ (List.getElem_mem hlt))
  · obtain ⟨p, hp, hk, hv⟩ := h.at h2
    have e1 : p.1 = k := by rw [h3] at hk; injection hk with hk; exact hk.symm
    refine .inr ⟨j, e.val, ?_, by simpa using h1, ?_, e, h2, h3⟩
    · refine look_of_mem h.nodup ?_
      rw [← e1, hv]
      exact List.mem_of_getElem? hp
    · rw [hp, ← e1, hv]

/-- m[k], without 'ok' and with it. -/
theorem run_map_look (h : MapIs w b l) (t kt et : TypeId) (ht : P.underlying t = some (.map kt et)) (hk : P.underlying kt = some .string) (z : Value) (hz : (zeroValue et).run P w = .ok z w) (k : ByteArray) :
    (Instr.lookup t (.map (some b)) (.string k) false).run P w = .ok ((look k l).getD z) w ∧
    (Instr.lookup t (.map (some b)) (.string k) true).run P w = .ok (.tuple #[(look k l).getD z, .bool (look k l).isSome]) w := by
  obtain ⟨es, c, hb, he⟩ := h
  rcases find_now he k with ⟨h1, h2, _⟩ | ⟨j, v, h1, h2, _⟩
  · constructor <;> simp [Instr.lookup, run_underlying ht, MapKept.run_getObj_map hb, MapKept.run_checkKey hk (show IsKey .string (.string k) from trivial), MapKept.run_findKey hk h2, Result.andThen, hz, h1]
  · constructor <;> simp [Instr.lookup, run_underlying ht, MapKept.run_getObj_map hb, MapKept.run_checkKey hk (show IsKey .string (.string k) from trivial), MapKept.run_findKey hk h2, Result.andThen, h1]

theorem lay_at {β : Type} {l : List (ByteArray × β)} {k : ByteArray} {v v0 : β} (hn : (l.map Prod.fst).Nodup) {j : Nat} (hj : l[j]? = some (k, v0)) : lay k v l = l.set j (k, v) := by
  induction l generalizing j with
  | nil => simp at hj
  | cons q l ih =>
    rw [List.map_cons, List.nodup_cons] at hn
    cases j with
    | zero => obtain rfl : q = (k, v0) := by simpa using hj
              simp [lay]
    | succ j =>
      have hj' : l[j]? = some (k, v0) := by simpa using hj
      have : ¬ q.1 = k := by
        rintro rfl
        exact hn.1 (List.mem_map.2 ⟨_, List.mem_of_getElem? hj', rfl⟩)
      unfold lay
      rw [if_neg this, ih hn.2 hj']
      rfl
theorem lay_new {β : Type} {l : List (ByteArray × β)} {k : ByteArray} {v : β} (h : look k l = none) : lay k v l = l ++ [(k, v)] := by
  induction l with
  | nil => rfl
  | cons q l ih =>
    unfold look at h
    split at h
    · cases h
    · rename_i hne
      unfold lay
      rw [if_neg hne, ih h]
      rfl

/-- m[k] = v. -/
theorem run_map_lay (h : MapIs w b l) (t kt et : TypeId) (ht : P.underlying t = some (.map kt et)) (hk : P.underlying kt = some .string) (k : ByteArray) (v : Value) :
    ∃ w', (Instr.mapUpdate t (.map (some b)) (.string k) v).run P w = .ok () w' ∧ MapIs w' b (lay k v l) ∧ Fr (fun i => i = b) w w' := by
  obtain ⟨es, c, hb, he⟩ := h
  have hfr : ∀ o, Fr (fun i => i = b) w { w with heap := w.heap.setIfInBounds b o } := fun o => ⟨rfl, rfl, rfl, by simp, fun i hi hn => (heap_set hb).2 i hn⟩
  rcases find_now he k with ⟨h1, h2, h3⟩ | ⟨j, v0, h1, h2, h4, e0, h5, h6⟩
  · refine ⟨{ w with heap := w.heap.setIfInBounds b (.map (es.push { key := .string k, val := v, born := c }) (c + 1)) }, ?_, ⟨_, _, (heap_set hb).1, ?_, stamped_push he.st h3⟩, hfr _⟩
    · simp [Instr.mapUpdate, run_underlying ht, MapKept.run_getObj_map hb, MapKept.run_checkKey hk (show IsKey .string (.string k) from trivial), MapKept.run_findKey hk h2, MapKept.run_setObj_map _ hb, Result.andThen]
    · rw [lay_new h1]
      simp [he.ents]
  · have hj : (es[j]?) = some e0 := by simpa using h5
    refine ⟨{ w with heap := w.heap.setIfInBounds b (.map (es.modify j fun e => { e with key := .string k, val := v }) c) }, ?_, ⟨_, _, (heap_set hb).1, ?_, stamped_modify he.st j _ (fun _ _ => rfl) (fun e _ h => ?_)⟩, hfr _⟩
    · simp [Instr.mapUpdate, run_underlying ht, MapKept.run_getObj_map hb, MapKept.run_checkKey hk (show IsKey .string (.string k) from trivial), MapKept.run_findKey hk h2, MapKept.run_setObj_map _ hb, Result.andThen, hj, h6, run_keyThatStays (d := .string) (show IsKey .string (.string k) from trivial)]
    · rw [lay_at he.nodup h4]
      apply List.ext_getElem?
      intro i
      have e1 := congrArg (fun x => x[i]?) he.ents
      simp only [List.getElem?_map] at e1
      simp only [List.getElem?_map, Array.getElem?_toList, Array.getElem?_modify, List.getElem?_set]
      by_cases hij : j = i
      · subst hij
        have hlt : j < l.length := (List.getElem?_eq_some_iff.1 h4).1
        simp [hj, hlt]
      · simp only [if_neg hij]
        rw [← e1]
        simp
    · rw [hj] at h
      injection h with h
      subst h
      exact h6.symm
theorem run_map_len (h : MapIs w b l) : ∃ es c, w.heap[b]? = some (.map es c) ∧ es.size = l.length := by
  obtain ⟨es, c, hb, he⟩ := h
  exact ⟨es, c, hb, he.size⟩
end
end Go.Proofs.YtlmhphejgahfbaaGreatDoor
/- Texts and bytes: reading, appending, r01.Texts. -/
set_option linter.unusedVariables false
set_option linter.unusedSimpArgs false
namespace Go.Proofs.YtlmhphejgahfbaaGreatDoor
open Go.RowKit

/-- A text of bytes. -/
theorem run_str {w : World} {F : Nat → Prop} {A : Option Addr} {c n : Nat} {xs : Bs} (h : Rd Ty.u8 w F A xs) (hn : n = xs.length) : (convert 46 9 (.slice A n c)).run Tryz.prog w = .ok (.string ⟨xs.toArray⟩) w := by
  subst hn
  cases xs with
  | nil =>
    cases A with
    | none => exact run_convert_bytes_nil (w := w) 46 5 Tryz.underlying46 Tryz.underlying5 0 c 9 Tryz.underlying9
    | some a => exact run_convert_bytes_back w 46 9 5 a c [] Tryz.underlying46 Tryz.underlying5 Tryz.underlying9 (fun j hj => absurd hj (by simp))
  | cons x xs =>
    obtain ⟨a, rfl, _⟩ := u8_at h (i := 0) (by simp)
    refine run_convert_bytes_back w 46 9 5 a c (x :: xs) Tryz.underlying46 Tryz.underlying5 Tryz.underlying9 (fun j hj => ?_)
    obtain ⟨a', e, hc⟩ := u8_at h hj
    obtain rfl : a = a' := Option.some.inj e
    exact hc
theorem row_bytes {w : World} {F : Nat → Prop} : ∀ p : Bs, Row Ty.u8 w F p (p.map fun b => Value.int .u8 (b.toNat : Int))
  | [] => rfl
  | b :: p => ⟨[.int .u8 (b.toNat : Int)], _, rfl, rfl, row_bytes p⟩
theorem info_str : (Tryz.prog.info? 9).map (fun i => (i.zero, i.size, i.bytes)) = some (some (.string ⟨#[]⟩), 1, 16) := by kernel_rfl
/-- Texts of one's own. -/
theorem strs_snoc {N : Nat} {w W : World} {v : Value} {l : List ByteArray} {x : ByteArray} (h : Ow Ty.str 9 w (fun i => N ≤ i) v l) (hl : l.length ≤ 1000000) (hN : N ≤ w.heap.size) (hW : W = w.alloc (.cells #[.string x] 9)) :
    ∃ A1 c1 w1, (Builtin.append_ #[40, 40] 40 #[v, .slice (some ⟨w.heap.size, 0, none⟩) 1 1]).run Tryz.prog W = .ok (.slice A1 (l.length + 1) c1) w1 ∧ Ow Ty.str 9 w1 (fun i => N ≤ i) (.slice A1 (l.length + 1) c1) (l ++ [x]) ∧ Fr (fun i => N ≤ i) w w1 := by
  have hfW : Fr No w W := by rw [hW]; exact (Fr.refl No w).alloc _
  have hsz : W.heap.size = w.heap.size + 1 := by rw [hW]; simp
  have hA : At W (some ⟨w.heap.size, 0, none⟩) [.string x] := by rw [hW]; exact At.block (heap_alloc_new w _)
  have hrow : Row Ty.str W (fun i => N ≤ i ∧ v.ownBlock ≠ some i) [x] [.string x] := Row.single (t := Ty.str) rfl
  obtain ⟨A1, c1, w1, hrun, hO, hg, hat⟩ := run_ow_append (P := Tryz.prog) (ty := 40) (ty' := 40) Ty.str (h.fr0 hfW) (.string ⟨#[]⟩) 16 Tryz.underlying40 info_str rfl (by decide) (by decide) 1 (ys := [x]) hrow hA (by simp; omega)
  refine ⟨A1, c1, w1, hrun, hO.mono fun i hi _ => ?_, (hfW.mono fun _ _ f => f.elim).grown hg fun k hk => .inl (h.own hk).1⟩
  rcases hi with hi | hi <;> omega
theorem str_atT {w : World} {F : Nat → Prop} {A : Option Addr} {l : List ByteArray} (h : Rd Ty.str w F A l) {i : Nat} (hi : i < l.length) : ∃ ad, A = some ad ∧ w.cell? (ad.add i) = some (.string l[i]) := by
  obtain ⟨ad, c, e, hk, e0, _⟩ := h.get' hi (by decide)
  obtain rfl : c = _ := hk
  have := e0 _ rfl
  rw [show Ty.str.sz = 1 from rfl, Nat.mul_one] at this
  exact ⟨ad, e, this⟩
set_option maxHeartbeats 2000000 in
set_option maxRecDepth 100000 in
theorem ref_texts {w : World} {F G : Nat → Prop} {A C : Option Addr} {c d : Nat} {xs ys : List ByteArray} (h : Rd Ty.str w F A xs) (k : Rd Ty.str w G C ys) :
    Calls Tryz.prog 18 #[.slice A xs.length c, .slice C ys.length d] w fun e w' => e = .returned (.bool (decide (xs = ys))) ∧ Fr No w w' := by
  have hx := h.1
  have hy := k.1
  by_cases hl : xs.length = ys.length
  · have H := Lib.hid (And.intro h k)
    clear h k
    go_enter Tryz.func18, Tryz.ntmps18
    go_wp2_with fail
    go_loopw [5] (fun i wr => ∃ k : Nat, k ≤ xs.length ∧ i = .int .i64 (k : Int) ∧ Hid (xs.take k = ys.take k ∧ Fr No w wr)) (fun i _ => xs.length - (intOf i).toNat)
    case atStart => exact ⟨0, Nat.zero_le _, rfl, by simp, Fr.refl _ _⟩
    case round =>
      obtain ⟨k, hk, rfl, I⟩ := hrel
      obtain ⟨ht, hf⟩ := I.out
      clear I
      have hk0 : (0 : Int) ≤ (k : Int) := Int.natCast_nonneg _
      by_cases hlt : k < xs.length
      · obtain ⟨a1, rfl, x0⟩ := str_atT (H.out.1.fr0 hf) hlt
        obtain ⟨a2, rfl, y0⟩ := str_atT (H.out.2.fr0 hf) (i := k) (by omega)
        have hk1 : (k : Int) < (xs.length : Int) := by omega
        have hk2 : (k : Int) < (ys.length : Int) := by omega
        have hk3 : k < ys.length := by omega
        have hnext : xs.take (k + 1) = ys.take (k + 1) ↔ xs[k] = ys[k] := by
          rw [List.take_succ_eq_append_getElem (l := xs) hlt, List.take_succ_eq_append_getElem (l := ys) hk3, ht]
          constructor
          · intro e
            have := List.append_cancel_left e
            injection this
          · intro e
            rw [e]
        have hno : xs[k] ≠ ys[k] → xs ≠ ys := fun h e => by subst e; exact h rfl
        have HN := Lib.hid (And.intro hnext (And.intro hno hf))
        clear hnext hno ht hf
        by_cases he : xs[k] = ys[k]
        · rw [← he] at y0
          have HE := Lib.hid he
          clear he
          generalize xs[k] = u at *
          go_wp2
          go_quiet (fail)
          go_wp2
          go_roundw
          case rel => exact ⟨k + 1, by omega, by go_num, HN.out.1.2 HE.out, HN.out.2.2.drewN _⟩
          case measure => simp [intOf]; omega
        · have hne : (xs[k].toList == ys[k].toList) = false := by rw [beq_toList]; exact decide_eq_false he
          have HE := Lib.hid (HN.out.2.1 he)
          clear he
          generalize xs[k] = u at *
          generalize ys[k] = v at *
          go_wp2
          go_quiet (fail)
          go_wp2
          go_ret
          exact ⟨by rw [decide_eq_false HE.out]; rfl, HN.out.2.2.drewN _⟩
      · obtain rfl : k = xs.length := by omega
        have : xs = ys := by rw [List.take_length, hl, List.take_length] at ht; exact ht
        subst this
        have HF := Lib.hid hf
        clear ht hf
        go_wp2
        go_ret
        exact ⟨by simp, HF.out⟩
  · have hne : xs ≠ ys := fun e => hl (by rw [e])
    rw [decide_eq_false hne]
    have hl' : (xs.length : Int) ≠ (ys.length : Int) := fun e => hl (by omega)
    clear h k hne hl
    go_enter Tryz.func18, Tryz.ntmps18
    go_wp2
    go_ret
    exact ⟨rfl, Fr.refl _ _⟩
end Go.Proofs.YtlmhphejgahfbaaGreatDoor
