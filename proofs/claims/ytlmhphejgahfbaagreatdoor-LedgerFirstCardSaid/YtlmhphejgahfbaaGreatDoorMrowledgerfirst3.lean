/- Texts of this claim, one behind the other: Spec01, Spec06, Map, Spec13, Spec14. -/
import Derived.Test.YtlmhphejgahfbaaGreatDoorMrowledgerfirst1
import Derived.MapKept
import Derived.Maps.Own
/- Texts in their order, and lists of them that rise: plain functions and facts. -/
set_option linter.unusedVariables false
set_option linter.unusedSimpArgs false
namespace Go.Proofs.YtlmhphejgahfbaaGreatDoor

theorem toList_data (a : ByteArray) : a.toList = a.data.toList := ByteArray.toList_eq a
theorem less_lex : ∀ (x y : List UInt8), Op.bytesLess x y = decide (x < y)
  | [], [] => by simp [Op.bytesLess]
  | _ :: _, [] => by simp [Op.bytesLess]
  | [], _ :: _ => by simp [Op.bytesLess]
  | a :: x, b :: y => by
    rw [Op.bytesLess, less_lex x y, Bool.eq_iff_iff]
    simp only [List.cons_lt_cons_iff, Bool.or_eq_true, Bool.and_eq_true, decide_eq_true_eq, beq_iff_eq]
theorem toList_inj {a b : ByteArray} (h : a.toList = b.toList) : a = b := by
  rw [toList_data, toList_data] at h
  cases a; cases b
  simpa using h
/-- Does a text stand ahead of another? -/
def kl (a b : ByteArray) : Bool := Go.Op.bytesLess a.toList b.toList
theorem kl_eq (a b : ByteArray) : kl a b = decide (a.toList < b.toList) := less_lex _ _
theorem kl_irrefl (a : ByteArray) : kl a a = false := by rw [kl_eq]; exact decide_eq_false (List.lt_irrefl _)
theorem kl_trans {a b c : ByteArray} (h : kl a b = true) (k : kl b c = true) : kl a c = true := by
  rw [kl_eq] at *
  exact decide_eq_true (List.lt_trans (of_decide_eq_true h) (of_decide_eq_true k))
theorem kl_tri {a b : ByteArray} (h : kl a b = false) (k : kl b a = false) : a = b := by
  rw [kl_eq] at *
  exact toList_inj (List.le_antisymm (List.not_lt.1 (of_decide_eq_false k)) (List.not_lt.1 (of_decide_eq_false h)))
theorem kl_asymm {a b : ByteArray} (h : kl a b = true) : kl b a = false := by
  cases hb : kl b a with
  | false => rfl
  | true => have := kl_trans h hb; rw [kl_irrefl] at this; cases this
theorem kl_ne {a b : ByteArray} (h : kl a b = true) : a ≠ b := by rintro rfl; rw [kl_irrefl] at h; cases h
/-- The walk's word for '=='. -/
theorem beq_toList (a b : ByteArray) : (a.toList == b.toList) = decide (a = b) := by
  by_cases h : a = b
  · subst h; simp
  · rw [decide_eq_false h]
    exact beq_false_of_ne fun e => h (toList_inj e)

/-- Rising, each once. -/
def Rising (l : List ByteArray) : Prop := l.Pairwise fun a b => kl a b = true
theorem Rising.nodup {l : List ByteArray} (h : Rising l) : l.Nodup := List.Pairwise.imp (fun h => kl_ne h) h
/-- Two lists that rise, of the same texts, are one. -/
theorem Rising.ext {l m : List ByteArray} (hl : Rising l) (hm : Rising m) (h : ∀ x, x ∈ l ↔ x ∈ m) : l = m := by
  induction l generalizing m with
  | nil =>
    cases m with
    | nil => rfl
    | cons y m => exact absurd ((h y).2 (List.mem_cons_self ..)) (List.not_mem_nil)
  | cons x l ih =>
    cases m with
    | nil => exact absurd ((h x).1 (List.mem_cons_self ..)) (List.not_mem_nil)
    | cons y m =>
      obtain ⟨h1, h2⟩ := List.pairwise_cons.1 hl
      obtain ⟨h3, h4⟩ := List.pairwise_cons.1 hm
      have e : x = y := by
        rcases List.mem_cons.1 ((h x).1 (List.mem_cons_self ..)) with e | e
        · exact e
        · rcases List.mem_cons.1 ((h y).2 (List.mem_cons_self ..)) with e' | e'
          · exact e'.symm
          · have := kl_asymm (h1 y e'); rw [h3 x e] at this; cases this
      subst e
      congr 1
      refine ih h2 h4 fun z => ⟨fun hz => ?_, fun hz => ?_⟩
      · rcases List.mem_cons.1 ((h z).1 (List.mem_cons_of_mem _ hz)) with e | e
        · exact absurd e.symm (kl_ne (h1 z hz))
        · exact e
      · rcases List.mem_cons.1 ((h z).2 (List.mem_cons_of_mem _ hz)) with e | e
        · exact absurd e.symm (kl_ne (h3 z hz))
        · exact e
/-- A text laid into a list that rises. -/
def ins (k : ByteArray) : List ByteArray → List ByteArray
  | [] => [k]
  | x :: l => if kl k x then k :: x :: l else if k = x then x :: l else x :: ins k l
theorem mem_ins {k : ByteArray} {l : List ByteArray} (x : ByteArray) : x ∈ ins k l ↔ x = k ∨ x ∈ l := by
  induction l with
  | nil => simp [ins]
  | cons y l ih =>
    unfold ins
    split
    · simp
    · split
      · rename_i h1 h2; subst h2; simp
      · simp only [List.mem_cons, ih]; constructor
        · rintro (h | h | h) <;> simp [h]
        · rintro (h | h | h) <;> simp [h]
theorem rising_ins {k : ByteArray} {l : List ByteArray} (h : Rising l) : Rising (ins k l) := by
  induction l with
  | nil => exact List.pairwise_singleton _ _
  | cons y l ih =>
    obtain ⟨h1, h2⟩ := List.pairwise_cons.1 h
    unfold ins
    split
    · rename_i hk
      refine List.pairwise_cons.2 ⟨fun z hz => ?_, h⟩
      rcases List.mem_cons.1 hz with e | e
      · rw [e]; exact hk
      · exact kl_trans hk (h1 z e)
    · split
      · exact h
      · rename_i hk hne
        have hyk : kl y k = true := by
          cases hy : kl y k with
          | true => rfl
          | false => exact absurd (kl_tri (by simpa using hk) hy) hne
        refine List.pairwise_cons.2 ⟨fun z hz => ?_, ih h2⟩
        rcases (mem_ins z).1 hz with e | e
        · rw [e]; exact hyk
        · exact h1 z e
/-- All texts of a list, rising, each once. -/
def rise (l : List ByteArray) : List ByteArray := l.foldr ins []
theorem mem_rise {l : List ByteArray} (x : ByteArray) : x ∈ rise l ↔ x ∈ l := by
  induction l with
  | nil => simp [rise]
  | cons y l ih => show x ∈ ins y (rise l) ↔ _; rw [mem_ins, ih, List.mem_cons]
theorem rising_rise (l : List ByteArray) : Rising (rise l) := by
  induction l with
  | nil => exact List.Pairwise.nil
  | cons y l ih => exact rising_ins ih
theorem rise_length (l : List ByteArray) : (rise l).length ≤ l.length := by
  have hi : ∀ k (l : List ByteArray), (ins k l).length ≤ l.length + 1 := by
    intro k l
    induction l with
    | nil => simp [ins]
    | cons y l ih =>
      unfold ins
      split
      · simp
      · split
        · simp
        · simp only [List.length_cons]; omega
  induction l with
  | nil => simp [rise]
  | cons y l ih =>
    have := hi y (rise l)
    show (ins y (rise l)).length ≤ _
    simp only [List.length_cons]
    omega
end Go.Proofs.YtlmhphejgahfbaaGreatDoor
/- Layer 6 (record), as far as a batch may be: plain functions. -/
set_option linter.unusedVariables false
set_option linter.unusedSimpArgs false
namespace Go.Proofs.YtlmhphejgahfbaaGreatDoor

/-- A key's new row, or that it is gone. -/
structure Wr where
  key : ByteArray
  row : Bs
  gone : Bool
def tWr : Ty Wr := Ty.iso (Ty.pair Ty.str (Ty.pair (Ty.slice Ty.u8) Ty.bool)) fun x => (x.key, x.row, x.gone)
theorem tWr_open {w : World} {F : Nat → Prop} {x : Wr} {cs : List Value} (h : tWr.K w F x cs) :
    ∃ A c, cs = [.string x.key, .slice A x.row.length c, .bool x.gone] ∧ x.row.length ≤ c ∧ Rd Ty.u8 w F A x.row := by
  obtain ⟨_, _, rfl, rfl, _, _, rfl, ⟨A, c, rfl, h1, h2⟩, rfl⟩ := h
  exact ⟨A, c, rfl, h1, h2⟩
theorem tWr_mk {w : World} {F : Nat → Prop} {a : ByteArray} {r : Bs} {g : Bool} {A : Option Addr} {c : Nat} (h1 : r.length ≤ c) (h2 : Rd Ty.u8 w F A r) :
    tWr.K w F ⟨a, r, g⟩ [.string a, .slice A r.length c, .bool g] :=
  ⟨_, [_, _], rfl, rfl, [_], [_], rfl, ⟨A, c, rfl, h1, h2⟩, rfl⟩

/-- May a write be, behind another one's key? -/
def fits (x : Wr) (last : ByteArray) : Bool :=
  decide (1 ≤ x.key.size) && decide (x.key.size ≤ 4000) && decide (x.row.length ≤ 4000) && kl last x.key && (!x.gone || decide (x.row.length = 0))
def allFit : ByteArray → List Wr → Bool
  | _, [] => true
  | last, x :: l => fits x last && allFit x.key l
def right (n : Int) (l : List Wr) : Bool := allFit ⟨#[]⟩ l && (decide (1 ≤ n) && decide (1 ≤ l.length) && decide (l.length ≤ 64))

theorem kl_not (a b : ByteArray) : (!(Op.bytesLess a.toList b.toList || a.toList == b.toList)) = kl b a := by
  show (!(kl a b || _)) = _
  rw [beq_toList]
  cases h1 : kl a b with
  | true => rw [kl_asymm h1]; rfl
  | false =>
    by_cases h2 : a = b
    · subst h2; rw [kl_irrefl]; simp
    · cases h3 : kl b a with
      | true => simp [h2]
      | false => exact absurd (kl_tri h1 h3) h2
theorem allFit_append (last : ByteArray) (l : List Wr) (x : Wr) : allFit last (l ++ [x]) = (allFit last l && fits x ((l.getLast?.map Wr.key).getD last)) := by
  induction l generalizing last with
  | nil => simp [allFit]
  | cons y l ih =>
    simp only [List.cons_append, allFit, ih, Bool.and_assoc]
    congr 3
    cases l with
    | nil => simp
    | cons z l =>
      rw [List.getLast?_cons_cons]
      cases hl : (z :: l).getLast? with
      | none => simp at hl
      | some u => simp
theorem allFit_mem {last : ByteArray} {l : List Wr} (h : allFit last l = true) : ∀ x ∈ l, 1 ≤ x.key.size ∧ x.key.size ≤ 4000 ∧ x.row.length ≤ 4000 ∧ (x.gone = true → x.row = []) := by
  induction l generalizing last with
  | nil => intro x hx; cases hx
  | cons y l ih =>
    simp only [allFit, Bool.and_eq_true] at h
    intro x hx
    rcases List.mem_cons.1 hx with rfl | hx
    · have := h.1
      simp only [fits, Bool.and_eq_true, Bool.or_eq_true, decide_eq_true_eq, Bool.not_eq_true'] at this
      refine ⟨this.1.1.1.1, this.1.1.1.2, this.1.1.2, fun hg => ?_⟩
      rcases this.2 with h1 | h1
      · rw [hg] at h1; cases h1
      · exact List.eq_nil_of_length_eq_zero h1
    · exact ih h.2 x hx
end Go.Proofs.YtlmhphejgahfbaaGreatDoor
/- Maps keyed by texts: what a block holds, and what the operations on it do. -/
set_option linter.unusedVariables false
set_option linter.unusedSimpArgs false
namespace Go.Proofs.YtlmhphejgahfbaaGreatDoor
open Go.RowKit Go.MapKept

/-! ### Lists of keys and values -/
def look {β : Type} (k : ByteArray) : List (ByteArray × β) → Option β
  | [] => none
  | p :: l => if p.1 = k then some p.2 else look k l
/-- A key's value in its place, else behind all. -/
def lay {β : Type} (k : ByteArray) (v : β) : List (ByteArray × β) → List (ByteArray × β)
  | [] => [(k, v)]
  | p :: l => if p.1 = k then (k, v) :: l else p :: lay k v l
section
variable {β : Type} {k : ByteArray} {v : β} {l : List (ByteArray × β)}
theorem look_none (h : look k l = none) : ∀ p ∈ l, p.1 ≠ k := by
  induction l with
  | nil => intro p hp; cases hp
  | cons q l ih =>
    unfold look at h
    split at h
    · cases h
    · intro p hp
      rcases List.mem_cons.1 hp with rfl | hp
      · assumption
      · exact ih h p hp
theorem look_mem (h : look k l = some v) : (k, v) ∈ l := by
  induction l with
  | nil => cases h
  | cons q l ih =>
    unfold look at h
    split at h
    · rename_i e; injection h with h; subst e; subst h; exact List.mem_cons_self ..
    · exact List.mem_cons_of_mem _ (ih h)
theorem look_of_mem (hn : (l.map Prod.fst).Nodup) (h : (k, v) ∈ l) : look k l = some v := by
  induction l with
  | nil => cases h
  | cons q l ih =>
    rw [List.map_cons, List.nodup_cons] at hn
    unfold look
    rcases List.mem_cons.1 h with e | h
    · subst e; simp
    · rw [if_neg, ih hn.2 h]
      rintro rfl
      exact hn.1 (List.mem_map.2 ⟨_, h, rfl⟩)
theorem look_none_iff : look k l = none ↔ k ∉ l.map Prod.fst := by
  constructor
  · intro h hm
    obtain ⟨p, hp, e⟩ := List.mem_map.1 hm
    exact look_none h p hp e
  · intro h
    cases hl : look k l with
    | none => rfl
    | some v => exact absurd (List.mem_map.2 ⟨_, look_mem hl, rfl⟩) h
theorem lay_keys (k : ByteArray) (v : β) (l : List (ByteArray × β)) : (lay k v l).map Prod.fst = if look k l = none then l.map Prod.fst ++ [k] else l.map Prod.fst := by
  induction l with
  | nil => simp [lay, look]
  | cons q l ih =>
    unfold lay look
    by_cases h : q.1 = k
    · simp [h]
    · simp only [if_neg h, List.map_cons, ih]; split <;> rfl
theorem lay_nodup (hn : (l.map Prod.fst).Nodup) : ((lay k v l).map Prod.fst).Nodup := by
  rw [lay_keys]
  split
  · rename_i h
    refine List.nodup_append.2 ⟨hn, by simp, fun a ha b hb => ?_⟩
    obtain rfl : b = k := by simpa using hb
    rintro rfl
    exact look_none_iff.1 h ha
  · exact hn
theorem look_lay (k' : ByteArray) : look k' (lay k v l) = if k = k' then some v else look k' l := by
  induction l with
  | nil => unfold lay look; split <;> simp [look]
  | cons q l ih =>
    unfold lay
    by_cases h : q.1 = k
    · rw [if_pos h]; unfold look
      by_cases h2 : k = k'
      · simp [h2]
      · have : ¬ q.1 = k' := fun e => h2 (h.symm.trans e)
        simp [h2, this]
    · rw [if_neg h]; unfold look; rw [ih]
      by_cases h2 : k = k'
      · subst h2; simp [h]
      · simp [h2]
theorem mem_lay (hn : (l.map Prod.fst).Nodup) (p : ByteArray × β) : p ∈ lay k v l ↔ p = (k, v) ∨ (p ∈ l ∧ p.1 ≠ k) := by
  constructor
  · intro h
    have h1 := look_of_mem (lay_nodup hn) (show (p.1, p.2) ∈ lay k v l from h)
    rw [look_lay] at h1
    split at h1
    · rename_i e; injection h1 with h1; left; rw [e, h1]
    · rename_i e; exact .inr ⟨look_mem h1, fun e' => e e'.symm⟩
  · rintro (rfl | ⟨h, hne⟩)
    · exact look_mem (by rw [look_lay]; simp)
    · exact look_mem (k := p.1) (v := p.2) (by rw [look_lay, if_neg (fun e => hne e.symm)]; exact look_of_mem hn h)
theorem lay_length : (lay k v l).length = if look k l = none then l.length + 1 else l.length := by
  induction l with
  | nil => simp [lay, look]
  | cons q l ih =>
    unfold lay look
    by_cases h : q.1 = k
    · simp [h]
    · simp only [if_neg h, List.length_cons, ih]; split <;> rfl
end

/-! ### A map's block -/
structure Es (es : Array MapEntry) (clock : Nat) (l : List (ByteArray × Value)) : Prop where
  ents : es.toList.map (fun e => (e.key, e.val)) = l.map fun p => (Value.string p.1, p.2)
  st : Stamped es clock
def MapIs (w : World) (b : Nat) (l : List (ByteArray × Value)) : Prop := ∃ es clock, w.heap[b]? = some (.map es clock) ∧ Es es clock l

theorem Es.keys {es : Array MapEntry} {clock : Nat} {l : List (ByteArray × Value)} (h : Es es clock l) : es.toList.map (·.key) = l.map fun p => Value.string p.1 := by
  have := congrArg (List.map Prod.fst) h.ents
  simpa [List.map_map, Function.comp_def] using this
theorem Es.nodup {es : Array MapEntry} {clock : Nat} {l : List (ByteArray × Value)} (h : Es es clock l) : (l.map Prod.fst).Nodup := by
  have h1 := h.st.2.2
  rw [h.keys] at h1
  have h2 : (l.map Prod.fst).map Value.string = l.map fun p => Value.string p.1 := by simp [List.map_map, Function.comp_def]
  rw [← h2] at h1
  exact (List.pairwise_map.1 h1).imp fun hne e => hne (by rw [e])
theorem Es.isKey {es : Array MapEntry} {clock : Nat} {l : List (ByteArray × Value)} (h : Es es clock l) : ∀ x ∈ es.toList, IsKey .string x.key := by
  intro x hx
  have : x.key ∈ es.toList.map (·.key) := List.mem_map.2 ⟨x, hx, rfl⟩
  rw [h.keys] at this
  obtain ⟨p, _, e⟩ := List.mem_map.1 this
  rw [← e]
  trivial
theorem Es.at {es : Array MapEntry} {clock : Nat} {l : List (ByteArray × Value)} (h : Es es clock l) {j : Nat} {e : MapEntry} (he : es.toList[j]? = some e) : ∃ p, l[j]? = some p ∧ e.key = .string p.1 ∧ e.val = p.2 := by
  have := congrArg (fun x => x[j]?) h.ents
  simp only [List.getElem?_map, he, Option.map_some] at this
  cases hp : l[j]? with
  | none => rw [hp] at this; cases this
  | some p =>
    rw [hp] at this
    simp only [Option.map_some, Option.some.injEq, Prod.mk.injEq] at this
    exact ⟨p, rfl, this.1, this.2⟩
theorem Es.size {es : Array MapEntry} {clock : Nat} {l : List (ByteArray × Value)} (h : Es es clock l) : es.size = l.length := by
  have := congrArg List.length h.ents
  simpa using this

theorem MapIs.stab {w w' : World} {b : Nat} {l : List (ByteArray × Value)} (h : MapIs w b l) (k : w'.heap[b]? = w.heap[b]?) : MapIs w' b l := by
  obtain ⟨es, c, hb, he⟩ := h
  exact ⟨es, c, k.trans hb, he⟩
theorem MapIs.lt {w : World} {b : Nat} {l : List (ByteArray × Value)} (h : MapIs w b l) : b < w.heap.size := by
  obtain ⟨es, c, hb, he⟩ := h
  exact blk_lt hb
theorem MapIs.nodup {w : World} {b : Nat} {l : List (ByteArray × Value)} (h : MapIs w b l) : (l.map Prod.fst).Nodup := by
  obtain ⟨es, c, hb, he⟩ := h
  exact he.nodup
theorem MapIs.new (w : World) : MapIs (w.alloc (.map #[] 0)) w.heap.size [] := ⟨#[], 0, heap_alloc_new w _, rfl, by simp, by simp, by simp⟩

section
variable {P : Program} {w : World} {b : Nat} {l : List (ByteArray × Value)}
theorem find_now {es : Array MapEntry} {clock : Nat} (h : Es es clock l) (k : ByteArray) :
    (look k l = none ∧ Instr.findNow .string (.string k) es.toList 0 = some none ∧ ∀ x ∈ es.toList, x.key ≠ .string k) ∨
    ∃ j v, look k l = some v ∧ Instr.findNow .string (.string k) es.toList 0 = some (some (j, v)) ∧ l[j]? = some (k, v) ∧ ∃ e, es.toList[j]? = some e ∧ e.key = .string k := by
  rcases findNow_spec (d := .string) (k := .string k) trivial es.toList 0 h.isKey with ⟨h1, h2⟩ | ⟨j, e, h1, h2, h3⟩
  · refine .inl ⟨?_, h1, h2⟩
    cases hl : look k l with
    | none => rfl
    | some v =>
      have hm := look_mem hl
      obtain ⟨j, hj⟩ := List.getElem?_of_mem hm
      have hlt : j < es.toList.length := by
        have := (List.getElem?_eq_some_iff.1 hj).1
        have := h.size
        simp; omega
      obtain ⟨p, hp, hk, _⟩ := h.at (List.getElem?_eq_getElem hlt)
      rw [hj] at hp
      injection hp with hp
      subst hp
      exact absurd hk (h2 _ (List.getElem_mem hlt))
  · obtain ⟨p, hp, hk, hv⟩ := h.at h2
    have e1 : p.1 = k := by rw [h3] at hk; injection hk with hk; exact hk.symm
    refine .inr ⟨j, e.val, ?_, by simpa using h1, ?_, e, h2, h3⟩
    · refine look_of_mem h.nodup ?_
      rw [← e1, hv]
      exact List.mem_of_getElem? hp
    · rw [hp, ← e1, hv]

/-- m[k], without 'ok' and with it. -/
theorem run_map_look (h : MapIs w b l) (t kt et : TypeId) (ht : P.underlying t = some (.map kt et)) (hk : P.underlying kt = some .string) (z : Value) (hz : (zeroValue et).run P w = .ok z w) (k : ByteArray) :
    (Instr.lookup t (.map (some b)) (.string k) false).run P w = .ok ((look k l).getD z) w ∧
    (Instr.lookup t (.map (some b)) (.string k) true).run P w = .ok (.tuple #[(look k l).getD z, .bool (look k l).isSome]) w := by
  obtain ⟨es, c, hb, he⟩ := h
  rcases find_now he k with ⟨h1, h2, _⟩ | ⟨j, v, h1, h2, _⟩
  · constructor <;> simp [Instr.lookup, run_underlying ht, MapKept.run_getObj_map hb, MapKept.run_checkKey hk (show IsKey .string (.string k) from trivial), MapKept.run_findKey hk h2, Result.andThen, hz, h1]
  · constructor <;> simp [Instr.lookup, run_underlying ht, MapKept.run_getObj_map hb, MapKept.run_checkKey hk (show IsKey .string (.string k) from trivial), MapKept.run_findKey hk h2, Result.andThen, h1]

theorem lay_at {β : Type} {l : List (ByteArray × β)} {k : ByteArray} {v v0 : β} (hn : (l.map Prod.fst).Nodup) {j : Nat} (hj : l[j]? = some (k, v0)) : lay k v l = l.set j (k, v) := by
  induction l generalizing j with
  | nil => simp at hj
  | cons q l ih =>
    rw [List.map_cons, List.nodup_cons] at hn
    cases j with
    | zero => obtain rfl : q = (k, v0) := by simpa using hj
              simp [lay]
    | succ j =>
      have hj' : l[j]? = some (k, v0) := by simpa using hj
      have : ¬ q.1 = k := by
        rintro rfl
        exact hn.1 (List.mem_map.2 ⟨_, List.mem_of_getElem? hj', rfl⟩)
      unfold lay
      rw [if_neg this, ih hn.2 hj']
      rfl
theorem lay_new {β : Type} {l : List (ByteArray × β)} {k : ByteArray} {v : β} (h : look k l = none) : lay k v l = l ++ [(k, v)] := by
  induction l with
  | nil => rfl
  | cons q l ih =>
    unfold look at h
    split at h
    · cases h
    · rename_i hne
      unfold lay
      rw [if_neg hne, ih h]
      rfl

/-- m[k] = v. -/
theorem run_map_lay (h : MapIs w b l) (t kt et : TypeId) (ht : P.underlying t = some (.map kt et)) (hk : P.underlying kt = some .string) (k : ByteArray) (v : Value) :
    ∃ w', (Instr.mapUpdate t (.map (some b)) (.string k) v).run P w = .ok () w' ∧ MapIs w' b (lay k v l) ∧ Fr (fun i => i = b) w w' := by
  obtain ⟨es, c, hb, he⟩ := h
  have hfr : ∀ o, Fr (fun i => i = b) w { w with heap := w.heap.setIfInBounds b o } := fun o => ⟨rfl, rfl, rfl, by simp, fun i hi hn => (heap_set hb).2 i hn⟩
  rcases find_now he k with ⟨h1, h2, h3⟩ | ⟨j, v0, h1, h2, h4, e0, h5, h6⟩
  · refine ⟨{ w with heap := w.heap.setIfInBounds b (.map (es.push { key := .string k, val := v, born := c }) (c + 1)) }, ?_, ⟨_, _, (heap_set hb).1, ?_, stamped_push he.st h3⟩, hfr _⟩
    · simp [Instr.mapUpdate, run_underlying ht, MapKept.run_getObj_map hb, MapKept.run_checkKey hk (show IsKey .string (.string k) from trivial), MapKept.run_findKey hk h2, MapKept.run_setObj_map _ hb, Result.andThen]
    · rw [lay_new h1]
      simp [he.ents]
  · have hj : (es[j]?) = some e0 := by simpa using h5
    refine ⟨{ w with heap := w.heap.setIfInBounds b (.map (es.modify j fun e => { e with key := .string k, val := v }) c) }, ?_, ⟨_, _, (heap_set hb).1, ?_, stamped_modify he.st j _ (fun _ _ => rfl) (fun e _ h => ?_)⟩, hfr _⟩
    · simp [Instr.mapUpdate, run_underlying ht, MapKept.run_getObj_map hb, MapKept.run_checkKey hk (show IsKey .string (.string k) from trivial), MapKept.run_findKey hk h2, MapKept.run_setObj_map _ hb, Result.andThen, hj, h6, run_keyThatStays (d := .string) (show IsKey .string (.string k) from trivial)]
    · rw [lay_at he.nodup h4]
      apply List.ext_getElem?
      intro i
      have e1 := congrArg (fun x => x[i]?) he.ents
      simp only [List.getElem?_map] at e1
      simp only [List.getElem?_map, Array.getElem?_toList, Array.getElem?_modify, List.getElem?_set]
      by_cases hij : j = i
      · subst hij
        have hlt : j < l.length := (List.getElem?_eq_some_iff.1 h4).1
        simp [hj, hlt]
      · simp only [if_neg hij]
        rw [← e1]
        simp
    · rw [hj] at h
      injection h with h
      subst h
      exact h6.symm
theorem run_map_len (h : MapIs w b l) : ∃ es c, w.heap[b]? = some (.map es c) ∧ es.size = l.length := by
  obtain ⟨es, c, hb, he⟩ := h
  exact ⟨es, c, hb, he.size⟩
end
end Go.Proofs.YtlmhphejgahfbaaGreatDoor
/- Layer 13 (store): all keys' versions, as plain functions. -/
set_option linter.unusedVariables false
set_option linter.unusedSimpArgs false
namespace Go.Proofs.YtlmhphejgahfbaaGreatDoor

/-- A key's value in a list that rises by its keys. -/
def slay {β : Type} (k : ByteArray) (v : β) : List (ByteArray × β) → List (ByteArray × β)
  | [] => [(k, v)]
  | p :: l => if kl k p.1 then (k, v) :: p :: l else if k = p.1 then (k, v) :: l else p :: slay k v l
section
variable {β : Type} {k : ByteArray} {v : β} {l : List (ByteArray × β)}
theorem slay_keys (k : ByteArray) (v : β) (l : List (ByteArray × β)) : (slay k v l).map Prod.fst = ins k (l.map Prod.fst) := by
  induction l with
  | nil => rfl
  | cons p l ih =>
    unfold slay
    simp only [List.map_cons, ins]
    split
    · rfl
    · split
      · rename_i h; subst h; rfl
      · rw [← ih]; rfl
theorem slay_rising (h : Rising (l.map Prod.fst)) : Rising ((slay k v l).map Prod.fst) := by rw [slay_keys]; exact rising_ins h
theorem look_slay (h : Rising (l.map Prod.fst)) (k' : ByteArray) : look k' (slay k v l) = if k = k' then some v else look k' l := by
  induction l with
  | nil => unfold slay look; split <;> simp [look]
  | cons p l ih =>
    obtain ⟨h1, h2⟩ := List.pairwise_cons.1 h
    unfold slay
    by_cases hk : kl k p.1 = true
    · rw [if_pos hk]; simp only [look]
    · rw [if_neg hk]
      by_cases he : k = p.1
      · rw [if_pos he]
        subst he
        simp only [look]
        split <;> rfl
      · rw [if_neg he]
        simp only [look, ih h2]
        by_cases h3 : p.1 = k'
        · rw [if_pos h3, if_neg (fun e => he (e.trans h3.symm)), if_pos h3]
        · rw [if_neg h3, if_neg h3]
theorem slay_length : (slay k v l).length ≤ l.length + 1 := by
  induction l with
  | nil => simp [slay]
  | cons p l ih =>
    unfold slay
    split
    · simp
    · split
      · simp
      · simp only [List.length_cons]; omega
theorem mem_slay (h : Rising (l.map Prod.fst)) (p : ByteArray × β) (hp : p ∈ slay k v l) : p = (k, v) ∨ p ∈ l := by
  have h1 := look_of_mem (slay_rising h).nodup (show (p.1, p.2) ∈ slay k v l from hp)
  rw [look_slay h] at h1
  split at h1
  · rename_i e; injection h1 with h1; left; rw [e, h1]
  · exact .inr (look_mem h1)
end

/-- Keys, rising, and their chains; how many batches came. -/
structure Sto where
  kc : List (ByteArray × Chn)
  now : Int
namespace Sto
def empty : Sto := ⟨[], 0⟩
def of (s : Sto) (k : ByteArray) : Chn := (look k s.kc).getD Chn.empty
/-- One write of the batch n. -/
def put1 (n : Int) (kc : List (ByteArray × Chn)) (x : Wr) : List (ByteArray × Chn) := slay x.key (((look x.key kc).getD Chn.empty).put n x.row x.gone) kc
def apply (s : Sto) (n : Int) (l : List Wr) : Sto × Int :=
  if right n l = false then (s, 2) else if n = s.now + 1 then (⟨l.foldl (put1 n) s.kc, n⟩, 0) else (s, 1)
def get (s : Sto) (a : Int) (k : ByteArray) : Option Bs := (s.of k).get a
def last (s : Sto) (k : ByteArray) : Int := (s.of k).last
/-- What is seen at a number, from a key on, and below another one. -/
def all (s : Sto) (a : Int) (lo hi : ByteArray) : List (ByteArray × Bs) :=
  s.kc.filterMap fun p => match p.2.get a with
    | some row => if kl p.1 lo = false ∧ (hi.size = 0 ∨ kl p.1 hi = true) then some (p.1, row) else none
    | none => none
def scan (s : Sto) (a : Int) (lo hi : ByteArray) (most : Int) : List (ByteArray × Bs) := (s.all a lo hi).take most.toNat
def cut (s : Sto) (a : Int) : Nat := (s.kc.map fun p => p.2.cut a).sum
def trim (s : Sto) (a : Int) : Sto := ⟨s.kc.map fun p => (p.1, p.2.trim a), s.now⟩
def len (s : Sto) : Nat := (s.kc.map fun p => p.2.l.length).sum
/-- How much there is, at most: m numbers. -/
structure Small (s : Sto) (m : Nat) : Prop where
  now0 : 0 ≤ s.now
  now1 : s.now ≤ m
  keys : s.kc.length ≤ m
  ksz : ∀ p ∈ s.kc, p.1.size ≤ 4000
  chains : ∀ p ∈ s.kc, p.2.l.length ≤ m ∧ p.2.last ≤ s.now ∧ ∀ v ∈ p.2.l, v.row.length ≤ 4000
end Sto

/-! ### What a scan selects -/
abbrev Item := ByteArray × Bs
def tItem : Ty Item := Ty.pair Ty.str (Ty.slice Ty.u8)
theorem tItem_open {w : World} {F : Nat → Prop} {x : Item} {cs : List Value} (h : tItem.K w F x cs) : ∃ A c, cs = [.string x.1, .slice A x.2.length c] ∧ x.2.length ≤ c ∧ Rd Ty.u8 w F A x.2 := by
  obtain ⟨_, _, rfl, rfl, A, c, rfl, h1, h2⟩ := h
  exact ⟨A, c, rfl, h1, h2⟩
theorem tItem_mk {w : World} {F : Nat → Prop} {a : ByteArray} {r : Bs} {A : Option Addr} {c : Nat} (h1 : r.length ≤ c) (h2 : Rd Ty.u8 w F A r) : tItem.K w F (a, r) [.string a, .slice A r.length c] :=
  ⟨[_], [_], rfl, rfl, A, c, rfl, h1, h2⟩
namespace Sto
def sel (a : Int) (lo hi : ByteArray) (p : ByteArray × Chn) : Option Item :=
  match p.2.get a with
  | some row => if kl p.1 lo = false ∧ (hi.size = 0 ∨ kl p.1 hi = true) then some (p.1, row) else none
  | none => none
theorem all_eq (s : Sto) (a : Int) (lo hi : ByteArray) : s.all a lo hi = s.kc.filterMap (sel a lo hi) := rfl
theorem sel_none {a : Int} {lo hi : ByteArray} {p : ByteArray × Chn} (h0 : hi.size ≠ 0) (h : kl p.1 hi = false) : sel a lo hi p = none := by
  unfold sel
  split
  · rw [if_neg (by rw [h]; simp [h0])]
  · rfl
theorem scan_stop1 {s : Sto} {a : Int} {lo hi : ByteArray} {most : Int} {k : Nat} (h : most ≤ (((s.kc.take k).filterMap (sel a lo hi)).length : Int)) (h' : (((s.kc.take k).filterMap (sel a lo hi)).length : Int) ≤ max most 0) :
    s.scan a lo hi most = (s.kc.take k).filterMap (sel a lo hi) := by
  have e : most.toNat = ((s.kc.take k).filterMap (sel a lo hi)).length := by omega
  unfold scan
  have h2 := List.filterMap_append (f := sel a lo hi) (l := s.kc.take k) (l' := s.kc.drop k)
  rw [List.take_append_drop] at h2
  rw [all_eq, e, h2]
  exact List.take_left
theorem scan_stop2 {s : Sto} {a : Int} {lo hi : ByteArray} {most : Int} {k : Nat} (hr : Rising (s.kc.map Prod.fst)) (hk : k < s.kc.length) (h0 : hi.size ≠ 0) (hh : kl s.kc[k].1 hi = false) (h' : (((s.kc.take k).filterMap (sel a lo hi)).length : Int) ≤ max most 0) :
    s.scan a lo hi most = (s.kc.take k).filterMap (sel a lo hi) := by
  have e : s.kc.filterMap (sel a lo hi) = (s.kc.take k).filterMap (sel a lo hi) := by
    conv => lhs; rw [← List.take_append_drop k s.kc]
    rw [List.filterMap_append]
    have : (s.kc.drop k).filterMap (sel a lo hi) = [] := by
      rw [List.filterMap_eq_nil_iff]
      intro p hp
      refine sel_none h0 ?_
      obtain ⟨j, hj, rfl⟩ := List.mem_drop_iff_getElem.1 hp
      rcases Nat.eq_zero_or_pos j with rfl | hj0
      · exact hh
      · have h1 := List.pairwise_iff_getElem.1 (List.pairwise_map.1 hr) k (k + j) hk (by omega) (by omega)
        cases h2 : kl (s.kc[k + j]'(by omega)).1 hi with
        | false => rfl
        | true => have := kl_trans h1 h2; rw [hh] at this; cases this
    rw [this, List.append_nil]
  unfold scan
  rw [all_eq, e]
  exact List.take_of_length_le (by omega)
theorem scan_end {s : Sto} {a : Int} {lo hi : ByteArray} {most : Int} (h' : ((s.kc.filterMap (sel a lo hi)).length : Int) ≤ max most 0) : s.scan a lo hi most = s.kc.filterMap (sel a lo hi) := by
  unfold scan
  rw [all_eq]
  exact List.take_of_length_le (by omega)
theorem sel_step {s : Sto} {a : Int} {lo hi : ByteArray} {k : Nat} (hk : k < s.kc.length) : (s.kc.take (k + 1)).filterMap (sel a lo hi) = (s.kc.take k).filterMap (sel a lo hi) ++ (sel a lo hi s.kc[k]).toList := by
  rw [List.take_succ_eq_append_getElem hk, List.filterMap_append]
  cases h : sel a lo hi s.kc[k] <;> simp [h]
end Sto
end Go.Proofs.YtlmhphejgahfbaaGreatDoor
/- Layer 14 (tx): writes by keys, rising: plain functions. -/
set_option linter.unusedVariables false
set_option linter.unusedSimpArgs false
namespace Go.Proofs.YtlmhphejgahfbaaGreatDoor

/-- A write in its place. -/
def wput (x : Wr) : List Wr → List Wr
  | [] => [x]
  | y :: l => if kl x.key y.key then x :: y :: l else if x.key = y.key then x :: l else y :: wput x l
def wfind (k : ByteArray) (l : List Wr) : Option Wr := l.find? fun x => decide (x.key = k)
/-- What a transaction has behind a write; the error. -/
def wwrite (l : List Wr) (x : Wr) : List Wr × Int := if (wfind x.key l).isNone = true ∧ 20 ≤ l.length then (l, 1) else (wput x l, 0)

theorem wfind_none {k : ByteArray} {l : List Wr} : wfind k l = none ↔ k ∉ l.map Wr.key := by
  unfold wfind
  rw [List.find?_eq_none]
  simp only [decide_eq_true_eq, List.mem_map, not_exists, not_and]
theorem wfind_some {k : ByteArray} {l : List Wr} {x : Wr} (h : wfind k l = some x) : x ∈ l ∧ x.key = k := by
  unfold wfind at h
  exact ⟨List.mem_of_find?_eq_some h, by simpa using List.find?_some h⟩
theorem wput_cons (x y : Wr) (l : List Wr) : wput x (y :: l) = if kl x.key y.key then x :: y :: l else if x.key = y.key then x :: l else y :: wput x l := rfl
theorem wput_keys (x : Wr) (l : List Wr) : (wput x l).map Wr.key = ins x.key (l.map Wr.key) := by
  induction l with
  | nil => rfl
  | cons y l ih =>
    unfold wput
    simp only [List.map_cons, ins]
    split
    · rfl
    · split
      · rename_i h; rw [List.map_cons, h]
      · rw [List.map_cons, ih]
theorem wput_rising {x : Wr} {l : List Wr} (h : Rising (l.map Wr.key)) : Rising ((wput x l).map Wr.key) := by rw [wput_keys]; exact rising_ins h
theorem wfind_wput {x : Wr} {l : List Wr} (h : Rising (l.map Wr.key)) (k : ByteArray) : wfind k (wput x l) = if x.key = k then some x else wfind k l := by
  induction l with
  | nil => unfold wput wfind; by_cases e : x.key = k <;> simp [e]
  | cons y l ih =>
    obtain ⟨h1, h2⟩ := List.pairwise_cons.1 h
    unfold wput
    by_cases hk : kl x.key y.key = true
    · rw [if_pos hk]; unfold wfind
      by_cases e : x.key = k <;> simp [e]
    · rw [if_neg hk]
      by_cases he : x.key = y.key
      · rw [if_pos he]; unfold wfind
        by_cases e : x.key = k
        · simp [e]
        · have e2 : ¬ y.key = k := fun h => e (he.trans h)
          simp [e, e2]
      · rw [if_neg he]
        have := ih h2
        unfold wfind at this ⊢
        by_cases e : y.key = k
        · have e2 : ¬ x.key = k := fun h => he (h.trans e.symm)
          simp [e, e2]
        · simp only [List.find?_cons, decide_eq_false e]
          exact this
theorem wput_length {x : Wr} {l : List Wr} (hr : Rising (l.map Wr.key)) : (wput x l).length = if (wfind x.key l).isNone = true then l.length + 1 else l.length := by
  induction l with
  | nil => rfl
  | cons y l ih =>
    obtain ⟨h1, h2⟩ := List.pairwise_cons.1 hr
    unfold wput
    by_cases hk : kl x.key y.key = true
    · have hn : wfind x.key (y :: l) = none := wfind_none.2 fun hm => by
        rcases List.mem_cons.1 hm with e | hm
        · exact kl_ne hk e
        · exact kl_ne (kl_trans hk (h1 _ hm)) rfl
      rw [if_pos hk, hn]; rfl
    · rw [if_neg hk]
      by_cases he : x.key = y.key
      · have hs : wfind x.key (y :: l) = some y := by unfold wfind; simp [he]
        rw [if_pos he, hs]; rfl
      · have hs : wfind x.key (y :: l) = wfind x.key l := by unfold wfind; rw [List.find?_cons_of_neg (by simpa using fun e : y.key = x.key => he e.symm)]
        rw [if_neg he, hs, List.length_cons, ih h2]
        split <;> rfl
theorem mem_wput {x y : Wr} {l : List Wr} (h : y ∈ wput x l) : y = x ∨ y ∈ l := by
  induction l with
  | nil => left; simpa [wput] using h
  | cons z l ih =>
    unfold wput at h
    split at h
    · rcases List.mem_cons.1 h with h | h
      · exact .inl h
      · exact .inr h
    · split at h
      · rcases List.mem_cons.1 h with h | h
        · exact .inl h
        · exact .inr (List.mem_cons_of_mem _ h)
      · rcases List.mem_cons.1 h with h | h
        · exact .inr (by rw [h]; exact List.mem_cons_self ..)
        · exact (ih h).imp id (List.mem_cons_of_mem _)

/-! ### The document's way: one after the other -/
/-- So many of the writes are ahead of the new one. -/
def wdone (x : Wr) (l : List Wr) : Bool := l.any fun y => !kl y.key x.key
/-- What the loop has, behind so many writes. -/
def wout (x : Wr) (l : List Wr) : List Wr := if wdone x l = true then wput x l else l
theorem wdone_snoc (x : Wr) (l : List Wr) (y : Wr) : wdone x (l ++ [y]) = (wdone x l || !kl y.key x.key) := by unfold wdone; rw [List.any_append]; simp
theorem wput_all {x : Wr} {l : List Wr} (h : wdone x l = false) : wput x l = l ++ [x] := by
  induction l with
  | nil => rfl
  | cons y l ih =>
    unfold wdone at h
    simp only [List.any_cons, Bool.or_eq_false_iff, Bool.not_eq_false'] at h
    unfold wput
    rw [if_neg (by rw [kl_asymm h.1]; simp), if_neg (fun e => by have := kl_ne h.1; exact this e.symm), ih h.2]
    rfl
/-- Behind one that isn't ahead of the new one, all others go on as they are. -/
theorem wput_snoc {x : Wr} {l : List Wr} {y : Wr} (h : wdone x l = true) (hr : Rising ((l ++ [y]).map Wr.key)) : wput x (l ++ [y]) = wput x l ++ [y] ∧ x.key ≠ y.key := by
  induction l with
  | nil => cases h
  | cons z l ih =>
    rw [List.cons_append, List.map_cons] at hr
    obtain ⟨h1, h2⟩ := List.pairwise_cons.1 hr
    have hzy : kl z.key y.key = true := h1 _ (List.mem_map_of_mem (by simp))
    unfold wdone at h
    simp only [List.any_cons, Bool.or_eq_true, Bool.not_eq_true'] at h
    by_cases hz : kl z.key x.key = false
    · have hle : kl x.key z.key = true ∨ x.key = z.key := by
        cases hx : kl x.key z.key with
        | true => exact .inl rfl
        | false => exact .inr (kl_tri hx hz)
      refine ⟨?_, ?_⟩
      · rw [List.cons_append, wput_cons, wput_cons]
        rcases hle with hle | hle
        · rw [if_pos hle, if_pos hle]; rfl
        · have hk : ¬ kl x.key z.key = true := by rw [hle, kl_irrefl]; simp
          rw [if_neg hk, if_neg hk, if_pos hle, if_pos hle]; rfl
      · rcases hle with hle | hle
        · exact kl_ne (kl_trans hle hzy)
        · rw [hle]; exact kl_ne hzy
    · have hz : kl z.key x.key = true := by simpa using hz
      have hd : wdone x l = true := by
        rcases h with h | h
        · rw [hz] at h; cases h
        · unfold wdone; simpa using h
      obtain ⟨h3, h4⟩ := ih hd h2
      refine ⟨?_, h4⟩
      rw [List.cons_append, wput_cons, wput_cons]
      have hxz : kl x.key z.key = false := kl_asymm hz
      have hne : ¬ x.key = z.key := fun e => kl_ne hz e.symm
      rw [if_neg (by rw [hxz]; simp), if_neg hne, if_neg (by rw [hxz]; simp), if_neg hne, h3]
      rfl
theorem wput_pre {x : Wr} {l m : List Wr} (h : wdone x l = false) : wput x (l ++ m) = l ++ wput x m := by
  induction l with
  | nil => rfl
  | cons y l ih =>
    unfold wdone at h
    simp only [List.any_cons, Bool.or_eq_false_iff, Bool.not_eq_false'] at h
    rw [List.cons_append, wput, if_neg (by rw [kl_asymm h.1]; simp), if_neg (fun e => by have := kl_ne h.1; exact this e.symm), ih h.2]
    rfl
/-- One step. -/
theorem wout_step {x : Wr} {l : List Wr} {y : Wr} (hr : Rising ((l ++ [y]).map Wr.key)) :
    wout x (l ++ [y]) = (if wdone x l = false ∧ kl y.key x.key = false then wout x l ++ [x] else wout x l) ++ (if y.key = x.key then [] else [y]) := by
  unfold wout
  rw [wdone_snoc]
  cases hd : wdone x l with
  | true =>
    obtain ⟨h1, h2⟩ := wput_snoc hd hr
    have h3 : ¬ y.key = x.key := fun e => h2 e.symm
    simp [h1, h3]
  | false =>
    cases hk : kl y.key x.key with
    | true =>
      have := kl_ne hk
      simp [this]
    | false =>
      have hp := wput_pre (m := [y]) hd
      simp only [Bool.false_or, Bool.not_false, if_true, true_and, and_self, Bool.false_eq_true, if_false]
      rw [hp]
      unfold wput wput
      by_cases h1 : kl x.key y.key = true
      · rw [if_pos h1, if_neg (fun e => kl_ne h1 e.symm)]; simp
      · have e : x.key = y.key := kl_tri (by simpa using h1) hk
        rw [if_neg h1, if_pos e, if_pos e.symm]; simp
theorem wout_end {x : Wr} {l : List Wr} : (if wdone x l = true then wout x l else wout x l ++ [x]) = wput x l := by
  unfold wout
  cases hd : wdone x l with
  | true => rfl
  | false => simp [wput_all hd]
end Go.Proofs.YtlmhphejgahfbaaGreatDoor
