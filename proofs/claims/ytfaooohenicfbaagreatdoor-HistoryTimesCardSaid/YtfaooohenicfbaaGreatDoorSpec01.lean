/- Texts in their order, and lists of them that rise: plain functions and facts. -/
import Derived.Test.YtfaooohenicfbaaGreatDoorLib
set_option linter.unusedVariables false
set_option linter.unusedSimpArgs false
namespace Go.Proofs.YtfaooohenicfbaaGreatDoor

theorem toList_data (a : ByteArray) : a.toList = a.data.toList := ByteArray.toList_eq a
theorem less_lex : ∀ (x y : List UInt8), Op.bytesLess x y = decide (x < y)
  | [], [] => by simp [Op.bytesLess]
  | _ :: _, [] => by simp [Op.bytesLess]
  | [], _ :: _ => by simp [Op.bytesLess]
  | a :: x, b :: y => by
    rw [Op.bytesLess, less_lex x y, Bool.eq_iff_iff]
    simp only [List.cons_lt_cons_iff, Bool.or_eq_true, Bool.and_eq_true, decide_eq_true_eq, beq_iff_eq]
theorem toList_inj {a b : ByteArray} (h : a.toList = b.toList) : a = b := by
  rw [toList_data, toList_data] at h
  cases a; cases b
  simpa using h
/-- Does a text stand ahead of another? -/
def kl (a b : ByteArray) : Bool := Go.Op.bytesLess a.toList b.toList
theorem kl_eq (a b : ByteArray) : kl a b = decide (a.toList < b.toList) := less_lex _ _
theorem kl_irrefl (a : ByteArray) : kl a a = false := by rw [kl_eq]; exact decide_eq_false (List.lt_irrefl _)
theorem kl_trans {a b c : ByteArray} (h : kl a b = true) (k : kl b c = true) : kl a c = true := by
  rw [kl_eq] at *
  exact decide_eq_true (List.lt_trans (of_decide_eq_true h) (of_decide_eq_true k))
theorem kl_tri {a b : ByteArray} (h : kl a b = false) (k : kl b a = false) : a = b := by
  rw [kl_eq] at *
  exact toList_inj (List.le_antisymm (List.not_lt.1 (of_decide_eq_false k)) (List.not_lt.1 (of_decide_eq_false h)))
theorem kl_asymm {a b : ByteArray} (h : kl a b = true) : kl b a = false := by
  cases hb : kl b a with
  | false => rfl
  | true => have := kl_trans h hb; rw [kl_irrefl] at this; cases this
theorem kl_ne {a b : ByteArray} (h : kl a b = true) : a ≠ b := by rintro rfl; rw [kl_irrefl] at h; cases h
/-- The walk's word for '=='. -/
theorem beq_toList (a b : ByteArray) : (a.toList == b.toList) = decide (a = b) := by
  by_cases h : a = b
  · subst h; simp
  · rw [decide_eq_false h]
    exact beq_false_of_ne fun e => h (toList_inj e)

/-- Rising, each once. -/
def Rising (l : List ByteArray) : Prop := l.Pairwise fun a b => kl a b = true
theorem Rising.nodup {l : List ByteArray} (h : Rising l) : l.Nodup := List.Pairwise.imp (fun h => kl_ne h) h
/-- Two lists that rise, of the same texts, are one. -/
theorem Rising.ext {l m : List ByteArray} (hl : Rising l) (hm : Rising m) (h : ∀ x, x ∈ l ↔ x ∈ m) : l = m := by
  induction l generalizing m with
  | nil =>
    cases m with
    | nil => rfl
    | cons y m => exact absurd ((h y).2 (List.mem_cons_self ..)) (List.not_mem_nil)
  | cons x l ih =>
    cases m with
    | nil => exact absurd ((h x).1 (List.mem_cons_self ..)) (List.not_mem_nil)
    | cons y m =>
      obtain ⟨h1, h2⟩ := List.pairwise_cons.1 hl
      obtain ⟨h3, h4⟩ := List.pairwise_cons.1 hm
      have e : x = y := by
        rcases List.mem_cons.1 ((h x).1 (List.mem_cons_self ..)) with e | e
        · exact e
        · rcases List.mem_cons.1 ((h y).2 (List.mem_cons_self ..)) with e' | e'
          · exact e'.symm
          · have := kl_asymm (h1 y e'); rw [h3 x e] at this; cases this
      subst e
      congr 1
      refine ih h2 h4 fun z => ⟨fun hz => ?_, fun hz => ?_⟩
      · rcases List.mem_cons.1 ((h z).1 (List.mem_cons_of_mem _ hz)) with e | e
        · exact absurd e.symm (kl_ne (h1 z hz))
        · exact e
      · rcases List.mem_cons.1 ((h z).2 (List.mem_cons_of_mem _ hz)) with e | e
        · exact absurd e.symm (kl_ne (h3 z hz))
        · exact e
/-- A text laid into a list that rises. -/
def ins (k : ByteArray) : List ByteArray → List ByteArray
  | [] => [k]
  | x :: l => if kl k x then k :: x :: l else if k = x then x :: l else x :: ins k l
theorem mem_ins {k : ByteArray} {l : List ByteArray} (x : ByteArray) : x ∈ ins k l ↔ x = k ∨ x ∈ l := by
  induction l with
  | nil => simp [ins]
  | cons y l ih =>
    unfold ins
    split
    · simp
    · split
      · rename_i h1 h2; subst h2; simp
      · simp only [List.mem_cons, ih]; constructor
        · rintro (h | h | h) <;> simp [h]
        · rintro (h | h | h) <;> simp [h]
theorem rising_ins {k : ByteArray} {l : List ByteArray} (h : Rising l) : Rising (ins k l) := by
  induction l with
  | nil => exact List.pairwise_singleton _ _
  | cons y l ih =>
    obtain ⟨h1, h2⟩ := List.pairwise_cons.1 h
    unfold ins
    split
    · rename_i hk
      refine List.pairwise_cons.2 ⟨fun z hz => ?_, h⟩
      rcases List.mem_cons.1 hz with e | e
      · rw [e]; exact hk
      · exact kl_trans hk (h1 z e)
    · split
      · exact h
      · rename_i hk hne
        have hyk : kl y k = true := by
          cases hy : kl y k with
          | true => rfl
          | false => exact absurd (kl_tri (by simpa using hk) hy) hne
        refine List.pairwise_cons.2 ⟨fun z hz => ?_, ih h2⟩
        rcases (mem_ins z).1 hz with e | e
        · rw [e]; exact hyk
        · exact h1 z e
/-- All texts of a list, rising, each once. -/
def rise (l : List ByteArray) : List ByteArray := l.foldr ins []
theorem mem_rise {l : List ByteArray} (x : ByteArray) : x ∈ rise l ↔ x ∈ l := by
  induction l with
  | nil => simp [rise]
  | cons y l ih => show x ∈ ins y (rise l) ↔ _; rw [mem_ins, ih, List.mem_cons]
theorem rising_rise (l : List ByteArray) : Rising (rise l) := by
  induction l with
  | nil => exact List.Pairwise.nil
  | cons y l ih => exact rising_ins ih
theorem rise_length (l : List ByteArray) : (rise l).length ≤ l.length := by
  have hi : ∀ k (l : List ByteArray), (ins k l).length ≤ l.length + 1 := by
    intro k l
    induction l with
    | nil => simp [ins]
    | cons y l ih =>
      unfold ins
      split
      · simp
      · split
        · simp
        · simp only [List.length_cons]; omega
  induction l with
  | nil => simp [rise]
  | cons y l ih =>
    have := hi y (rise l)
    show (ins y (rise l)).length ≤ _
    simp only [List.length_cons]
    omega
end Go.Proofs.YtfaooohenicfbaaGreatDoor
