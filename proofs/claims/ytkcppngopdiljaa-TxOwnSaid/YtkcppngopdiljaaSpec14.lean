/- Layer 14 (tx): writes by keys, rising: plain functions. -/
import Derived.Test.YtkcppngopdiljaaSpec06
import Derived.Test.YtkcppngopdiljaaSpec13
set_option linter.unusedVariables false
set_option linter.unusedSimpArgs false
namespace Go.Proofs.Ytkcppngopdiljaa

/-- A write in its place. -/
def wput (x : Wr) : List Wr → List Wr
  | [] => [x]
  | y :: l => if kl x.key y.key then x :: y :: l else if x.key = y.key then x :: l else y :: wput x l
def wfind (k : ByteArray) (l : List Wr) : Option Wr := l.find? fun x => decide (x.key = k)
/-- What a transaction has behind a write; the error. -/
def wwrite (l : List Wr) (x : Wr) : List Wr × Int := if (wfind x.key l).isNone = true ∧ 20 ≤ l.length then (l, 1) else (wput x l, 0)

theorem wfind_none {k : ByteArray} {l : List Wr} : wfind k l = none ↔ k ∉ l.map Wr.key := by
  unfold wfind
  rw [List.find?_eq_none]
  simp only [decide_eq_true_eq, List.mem_map, not_exists, not_and]
theorem wfind_some {k : ByteArray} {l : List Wr} {x : Wr} (h : wfind k l = some x) : x ∈ l ∧ x.key = k := by
  unfold wfind at h
  exact ⟨List.mem_of_find?_eq_some h, by simpa using List.find?_some h⟩
theorem wput_cons (x y : Wr) (l : List Wr) : wput x (y :: l) = if kl x.key y.key then x :: y :: l else if x.key = y.key then x :: l else y :: wput x l := rfl
theorem wput_keys (x : Wr) (l : List Wr) : (wput x l).map Wr.key = ins x.key (l.map Wr.key) := by
  induction l with
  | nil => rfl
  | cons y l ih =>
    unfold wput
    simp only [List.map_cons, ins]
    split
    · rfl
    · split
      · rename_i h; rw [List.map_cons, h]
      · rw [List.map_cons, ih]
theorem wput_rising {x : Wr} {l : List Wr} (h : Rising (l.map Wr.key)) : Rising ((wput x l).map Wr.key) := by rw [wput_keys]; exact rising_ins h
theorem wfind_wput {x : Wr} {l : List Wr} (h : Rising (l.map Wr.key)) (k : ByteArray) : wfind k (wput x l) = if x.key = k then some x else wfind k l := by
  induction l with
  | nil => unfold wput wfind; by_cases e : x.key = k <;> simp [e]
  | cons y l ih =>
    obtain ⟨h1, h2⟩ := List.pairwise_cons.1 h
    unfold wput
    by_cases hk : kl x.key y.key = true
    · rw [if_pos hk]; unfold wfind
      by_cases e : x.key = k <;> simp [e]
    · rw [if_neg hk]
      by_cases he : x.key = y.key
      · rw [if_pos he]; unfold wfind
        by_cases e : x.key = k
        · simp [e]
        · have e2 : ¬ y.key = k := fun h => e (he.trans h)
          simp [e, e2]
      · rw [if_neg he]
        have := ih h2
        unfold wfind at this ⊢
        by_cases e : y.key = k
        · have e2 : ¬ x.key = k := fun h => he (h.trans e.symm)
          simp [e, e2]
        · simp only [List.find?_cons, decide_eq_false e]
          exact this
theorem wput_length {x : Wr} {l : List Wr} (hr : Rising (l.map Wr.key)) : (wput x l).length = if (wfind x.key l).isNone = true then l.length + 1 else l.length := by
  induction l with
  | nil => rfl
  | cons y l ih =>
    obtain ⟨h1, h2⟩ := List.pairwise_cons.1 hr
    unfold wput
    by_cases hk : kl x.key y.key = true
    · have hn : wfind x.key (y :: l) = none := wfind_none.2 fun hm => by
        rcases List.mem_cons.1 hm with e | hm
        · exact kl_ne hk e
        · exact kl_ne (kl_trans hk (h1 _ hm)) rfl
      rw [if_pos hk, hn]; rfl
    · rw [if_neg hk]
      by_cases he : x.key = y.key
      · have hs : wfind x.key (y :: l) = some y := by unfold wfind; simp [he]
        rw [if_pos he, hs]; rfl
      · have hs : wfind x.key (y :: l) = wfind x.key l := by unfold wfind; rw [List.find?_cons_of_neg (by simpa using fun e : y.key = x.key => he e.symm)]
        rw [if_neg he, hs, List.length_cons, ih h2]
        split <;> rfl
theorem mem_wput {x y : Wr} {l : List Wr} (h : y ∈ wput x l) : y = x ∨ y ∈ l := by
  induction l with
  | nil => left; simpa [wput] using h
  | cons z l ih =>
    unfold wput at h
    split at h
    · rcases List.mem_cons.1 h with h | h
      · exact .inl h
      · exact .inr h
    · split at h
      · rcases List.mem_cons.1 h with h | h
        · exact .inl h
        · exact .inr (List.mem_cons_of_mem _ h)
      · rcases List.mem_cons.1 h with h | h
        · exact .inr (by rw [h]; exact List.mem_cons_self ..)
        · exact (ih h).imp id (List.mem_cons_of_mem _)

/-! ### The document's way: one after the other -/
/-- So many of the writes are ahead of the new one. -/
def wdone (x : Wr) (l : List Wr) : Bool := l.any fun y => !kl y.key x.key
/-- What the loop has, behind so many writes. -/
def wout (x : Wr) (l : List Wr) : List Wr := if wdone x l = true then wput x l else l
theorem wdone_snoc (x : Wr) (l : List Wr) (y : Wr) : wdone x (l ++ [y]) = (wdone x l || !kl y.key x.key) := by unfold wdone; rw [List.any_append]; simp
theorem wput_all {x : Wr} {l : List Wr} (h : wdone x l = false) : wput x l = l ++ [x] := by
  induction l with
  | nil => rfl
  | cons y l ih =>
    unfold wdone at h
    simp only [List.any_cons, Bool.or_eq_false_iff, Bool.not_eq_false'] at h
    unfold wput
    rw [if_neg (by rw [kl_asymm h.1]; simp), if_neg (fun e => by have := kl_ne h.1; exact this e.symm), ih h.2]
    rfl
/-- Behind one that isn't ahead of the new one, all others go on as they are. -/
theorem wput_snoc {x : Wr} {l : List Wr} {y : Wr} (h : wdone x l = true) (hr : Rising ((l ++ [y]).map Wr.key)) : wput x (l ++ [y]) = wput x l ++ [y] ∧ x.key ≠ y.key := by
  induction l with
  | nil => cases h
  | cons z l ih =>
    rw [List.cons_append, List.map_cons] at hr
    obtain ⟨h1, h2⟩ := List.pairwise_cons.1 hr
    have hzy : kl z.key y.key = true := h1 _ (List.mem_map_of_mem (by simp))
    unfold wdone at h
    simp only [List.any_cons, Bool.or_eq_true, Bool.not_eq_true'] at h
    by_cases hz : kl z.key x.key = false
    · have hle : kl x.key z.key = true ∨ x.key = z.key := by
        cases hx : kl x.key z.key with
        | true => exact .inl rfl
        | false => exact .inr (kl_tri hx hz)
      refine ⟨?_, ?_⟩
      · rw [List.cons_append, wput_cons, wput_cons]
        rcases hle with hle | hle
        · rw [if_pos hle, if_pos hle]; rfl
        · have hk : ¬ kl x.key z.key = true := by rw [hle, kl_irrefl]; simp
          rw [if_neg hk, if_neg hk, if_pos hle, if_pos hle]; rfl
      · rcases hle with hle | hle
        · exact kl_ne (kl_trans hle hzy)
        · rw [hle]; exact kl_ne hzy
    · have hz : kl z.key x.key = true := by simpa using hz
      have hd : wdone x l = true := by
        rcases h with h | h
        · rw [hz] at h; cases h
        · unfold wdone; simpa using h
      obtain ⟨h3, h4⟩ := ih hd h2
      refine ⟨?_, h4⟩
      rw [List.cons_append, wput_cons, wput_cons]
      have hxz : kl x.key z.key = false := kl_asymm hz
      have hne : ¬ x.key = z.key := fun e => kl_ne hz e.symm
      rw [if_neg (by rw [hxz]; simp), if_neg hne, if_neg (by rw [hxz]; simp), if_neg hne, h3]
      rfl
theorem wput_pre {x : Wr} {l m : List Wr} (h : wdone x l = false) : wput x (l ++ m) = l ++ wput x m := by
  induction l with
  | nil => rfl
  | cons y l ih =>
    unfold wdone at h
    simp only [List.any_cons, Bool.or_eq_false_iff, Bool.not_eq_false'] at h
    rw [List.cons_append, wput, if_neg (by rw [kl_asymm h.1]; simp), if_neg (fun e => by have := kl_ne h.1; exact this e.symm), ih h.2]
    rfl
/-- One step. -/
theorem wout_step {x : Wr} {l : List Wr} {y : Wr} (hr : Rising ((l ++ [y]).map Wr.key)) :
    wout x (l ++ [y]) = (if wdone x l = false ∧ kl y.key x.key = false then wout x l ++ [x] else wout x l) ++ (if y.key = x.key then [] else [y]) := by
  unfold wout
  rw [wdone_snoc]
  cases hd : wdone x l with
  | true =>
    obtain ⟨h1, h2⟩ := wput_snoc hd hr
    have h3 : ¬ y.key = x.key := fun e => h2 e.symm
    simp [h1, h3]
  | false =>
    cases hk : kl y.key x.key with
    | true =>
      have := kl_ne hk
      simp [this]
    | false =>
      have hp := wput_pre (m := [y]) hd
      simp only [Bool.false_or, Bool.not_false, if_true, true_and, and_self, Bool.false_eq_true, if_false]
      rw [hp]
      unfold wput wput
      by_cases h1 : kl x.key y.key = true
      · rw [if_pos h1, if_neg (fun e => kl_ne h1 e.symm)]; simp
      · have e : x.key = y.key := kl_tri (by simpa using h1) hk
        rw [if_neg h1, if_pos e, if_pos e.symm]; simp
theorem wout_end {x : Wr} {l : List Wr} : (if wdone x l = true then wout x l else wout x l ++ [x]) = wput x l := by
  unfold wout
  cases hd : wdone x l with
  | true => rfl
  | false => simp [wput_all hd]
end Go.Proofs.Ytkcppngopdiljaa
