/- Plain: are the moments of entries right? Two ways to say it. -/
import Derived.Test.YtfaooohenicfbaaGreatDoorMapI
import Derived.Test.YtfaooohenicfbaaGreatDoorEnt
set_option linter.unusedVariables false
set_option linter.unusedSimpArgs false
namespace Go.Proofs.YtfaooohenicfbaaGreatDoor

/-- Is an entry done behind its beginning, and ended behind that? -/
def timed (x : En) : Bool := decide (0 < x.bg) && (decide (x.pt = 0) || decide (x.bg ≤ x.pt)) && (decide (x.en = 0) || (decide (0 < x.pt) && decide (x.pt ≤ x.en)))
/-- May an entry come behind another one of the same client? -/
def behind (was x : En) : Bool := decide (1 ≤ was.en) && decide (was.en ≤ x.bg)
/-- As the program goes: the last one of each client. -/
def timesP : List (Int × En) → List En → Bool
  | _, [] => true
  | last, x :: l => timed x && (match lookI x.cl last with | none => true | some was => behind was x) && timesP (layI x.cl x last) l
theorem timesP_cons (last : List (Int × En)) (x : En) (l : List En) : timesP last (x :: l) = (timed x && (match lookI x.cl last with | none => true | some was => behind was x) && timesP (layI x.cl x last) l) := rfl
/-- As the document goes: the next one of the same client. -/
def next (x : En) (l : List En) : Option En := l.find? fun y => decide (y.cl = x.cl)
def timesR : List En → Bool
  | [] => true
  | x :: l => timed x && (match next x l with | none => true | some y => behind x y) && timesR l
def fitLast (last : List (Int × En)) (l : List En) : Prop := ∀ c was, lookI c last = some was → ∀ y, (l.find? fun y => decide (y.cl = c)) = some y → behind was y = true
theorem timesP_iff (last : List (Int × En)) (l : List En) : timesP last l = true ↔ timesR l = true ∧ fitLast last l := by
  induction l generalizing last with
  | nil => exact ⟨fun _ => ⟨rfl, fun c was _ y h => by cases h⟩, fun _ => rfl⟩
  | cons x l ih =>
    unfold timesP timesR
    rw [Bool.and_eq_true, Bool.and_eq_true, Bool.and_eq_true, Bool.and_eq_true, ih]
    constructor
    · rintro ⟨⟨h1, h2⟩, h3, h4⟩
      refine ⟨⟨⟨h1, ?_⟩, h3⟩, fun c was hl y hy => ?_⟩
      · cases hn : next x l with
        | none => rfl
        | some y => exact h4 x.cl x (by rw [look_layI, if_pos rfl]) y hn
      · rw [List.find?_cons] at hy
        by_cases hc : x.cl = c
        · subst hc
          simp at hy
          subst hy
          rw [hl] at h2
          exact h2
        · rw [decide_eq_false hc] at hy
          exact h4 c was (by rw [look_layI, if_neg hc]; exact hl) y hy
    · rintro ⟨⟨⟨h1, h2⟩, h3⟩, h4⟩
      refine ⟨⟨h1, ?_⟩, h3, fun c was hl y hy => ?_⟩
      · cases hl : lookI x.cl last with
        | none => rfl
        | some was => exact h4 x.cl was hl x (by rw [List.find?_cons]; simp)
      · rw [look_layI] at hl
        by_cases hc : x.cl = c
        · subst hc
          rw [if_pos rfl] at hl
          injection hl with hl
          subst hl
          have : next x l = some y := hy
          rw [this] at h2
          exact h2
        · rw [if_neg hc] at hl
          exact h4 c was hl y (by rw [List.find?_cons, decide_eq_false hc]; exact hy)
theorem times_same (l : List En) : timesP [] l = timesR l := by
  have h := timesP_iff [] l
  have hf : fitLast [] l := fun c was h => by cases h
  cases h1 : timesP [] l <;> cases h2 : timesR l <;> simp_all

/-! ### A map's entries as values -/
def valM (l : List (Int × En)) : List (Int × Value) := l.map fun p => (p.1, p.2.val)
theorem look_valM (k : Int) (l : List (Int × En)) : lookI k (valM l) = (lookI k l).map En.val := by
  induction l with
  | nil => rfl
  | cons p l ih =>
    show (if p.1 = k then some p.2.val else lookI k (valM l)) = (if p.1 = k then some p.2 else lookI k l).map En.val
    split
    · rfl
    · exact ih
theorem lay_valM (k : Int) (x : En) (l : List (Int × En)) : layI k x.val (valM l) = valM (layI k x l) := by
  induction l with
  | nil => rfl
  | cons p l ih =>
    show (if p.1 = k then (k, x.val) :: valM l else (p.1, p.2.val) :: layI k x.val (valM l)) = valM (if p.1 = k then (k, x) :: l else p :: layI k x l)
    split
    · rfl
    · rw [ih]; rfl
end Go.Proofs.YtfaooohenicfbaaGreatDoor
