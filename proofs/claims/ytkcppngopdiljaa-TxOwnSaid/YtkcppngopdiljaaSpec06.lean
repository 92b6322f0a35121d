/- Layer 6 (record), as far as a batch may be: plain functions. -/
import Derived.Test.YtkcppngopdiljaaSpec01
import Derived.Test.YtkcppngopdiljaaSpec12
set_option linter.unusedVariables false
set_option linter.unusedSimpArgs false
namespace Go.Proofs.Ytkcppngopdiljaa

/-- A key's new row, or that it is gone. -/
structure Wr where
  key : ByteArray
  row : Bs
  gone : Bool
def tWr : Ty Wr := Ty.iso (Ty.pair Ty.str (Ty.pair (Ty.slice Ty.u8) Ty.bool)) fun x => (x.key, x.row, x.gone)
theorem tWr_open {w : World} {F : Nat → Prop} {x : Wr} {cs : List Value} (h : tWr.K w F x cs) :
    ∃ A c, cs = [.string x.key, .slice A x.row.length c, .bool x.gone] ∧ x.row.length ≤ c ∧ Rd Ty.u8 w F A x.row := by
  obtain ⟨_, _, rfl, rfl, _, _, rfl, ⟨A, c, rfl, h1, h2⟩, rfl⟩ := h
  exact ⟨A, c, rfl, h1, h2⟩
theorem tWr_mk {w : World} {F : Nat → Prop} {a : ByteArray} {r : Bs} {g : Bool} {A : Option Addr} {c : Nat} (h1 : r.length ≤ c) (h2 : Rd Ty.u8 w F A r) :
    tWr.K w F ⟨a, r, g⟩ [.string a, .slice A r.length c, .bool g] :=
  ⟨_, [_, _], rfl, rfl, [_], [_], rfl, ⟨A, c, rfl, h1, h2⟩, rfl⟩

/-- May a write be, behind another one's key? -/
def fits (x : Wr) (last : ByteArray) : Bool :=
  decide (1 ≤ x.key.size) && decide (x.key.size ≤ 4000) && decide (x.row.length ≤ 4000) && kl last x.key && (!x.gone || decide (x.row.length = 0))
def allFit : ByteArray → List Wr → Bool
  | _, [] => true
  | last, x :: l => fits x last && allFit x.key l
def right (n : Int) (l : List Wr) : Bool := allFit ⟨#[]⟩ l && (decide (1 ≤ n) && decide (1 ≤ l.length) && decide (l.length ≤ 64))

theorem kl_not (a b : ByteArray) : (!(Op.bytesLess a.toList b.toList || a.toList == b.toList)) = kl b a := by
  show (!(kl a b || _)) = _
  rw [beq_toList]
  cases h1 : kl a b with
  | true => rw [kl_asymm h1]; rfl
  | false =>
    by_cases h2 : a = b
    · subst h2; rw [kl_irrefl]; simp
    · cases h3 : kl b a with
      | true => simp [h2]
      | false => exact absurd (kl_tri h1 h3) h2
theorem allFit_append (last : ByteArray) (l : List Wr) (x : Wr) : allFit last (l ++ [x]) = (allFit last l && fits x ((l.getLast?.map Wr.key).getD last)) := by
  induction l generalizing last with
  | nil => simp [allFit]
  | cons y l ih =>
    simp only [List.cons_append, allFit, ih, Bool.and_assoc]
    congr 3
    cases l with
    | nil => simp
    | cons z l =>
      rw [List.getLast?_cons_cons]
      cases hl : (z :: l).getLast? with
      | none => simp at hl
      | some u => simp
theorem allFit_mem {last : ByteArray} {l : List Wr} (h : allFit last l = true) : ∀ x ∈ l, 1 ≤ x.key.size ∧ x.key.size ≤ 4000 ∧ x.row.length ≤ 4000 ∧ (x.gone = true → x.row = []) := by
  induction l generalizing last with
  | nil => intro x hx; cases hx
  | cons y l ih =>
    simp only [allFit, Bool.and_eq_true] at h
    intro x hx
    rcases List.mem_cons.1 hx with rfl | hx
    · have := h.1
      simp only [fits, Bool.and_eq_true, Bool.or_eq_true, decide_eq_true_eq, Bool.not_eq_true'] at this
      refine ⟨this.1.1.1.1, this.1.1.1.2, this.1.1.2, fun hg => ?_⟩
      rcases this.2 with h1 | h1
      · rw [hg] at h1; cases h1
      · exact List.eq_nil_of_length_eq_zero h1
    · exact ih h.2 x hx
end Go.Proofs.Ytkcppngopdiljaa
