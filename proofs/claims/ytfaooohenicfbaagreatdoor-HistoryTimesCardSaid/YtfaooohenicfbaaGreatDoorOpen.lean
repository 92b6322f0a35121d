/- What an argument reads as, opened to a list. -/
import Derived.Test.YtfaooohenicfbaaGreatDoorRef1
import Derived.Deep.Slices
import Derived.Deep.Strs
set_option linter.unusedVariables false
set_option linter.unusedSimpArgs false
namespace Go.Proofs.YtfaooohenicfbaaGreatDoor
open Go.RowKit Go.Deep

abbrev Old (w : World) : Nat → Prop := fun i => i < w.heap.size
/-- Whatever reads at the type e is an element of t. -/
def Opens {α : Type} (P : Program) (t : Ty α) (e : TypeId) : Prop :=
  P.cellsOf e = t.sz ∧ ∀ (H : Type) (enc : TypeId × Value → H) (w : World) (base : Nat) (spare : Nat → Bool) (held : Bool) (fuel : Nat) (cs : List Value) (x : DataW H × List MemPlace), DataW.trod enc P w base spare held fuel e cs = some x → ∃ v : α, t.K w (Old w) v cs

section
variable {P : Program} {e : TypeId}
theorem Opens.bool (hc : P.cellsOf e = 1) (ht : P.underlying e = some .bool) : Opens P Ty.bool e := by
  refine ⟨hc, fun H enc w base spare held fuel cs x h => ?_⟩
  obtain ⟨b, rfl, _⟩ := DataW.trod_bool ht h
  exact ⟨b, rfl⟩
theorem Opens.int {k : IntKind} (hc : P.cellsOf e = 1) (ht : P.underlying e = some (.int k)) : Opens P (Ty.int k) e := by
  refine ⟨hc, fun H enc w base spare held fuel cs x h => ?_⟩
  obtain ⟨n, rfl, _⟩ := DataW.trod_int ht h
  exact ⟨n, rfl⟩
theorem Opens.u8 (hc : P.cellsOf e = 1) (ht : P.underlying e = some (.int .u8)) : Opens P Ty.u8 e := by
  refine ⟨hc, fun H enc w base spare held fuel cs x h => ?_⟩
  obtain ⟨n, rfl, _, hw⟩ := DataW.trod_int ht h
  have h1 : 0 ≤ n ∧ n ≤ 255 := by
    unfold Lit.wf at hw
    simp [IntKind.wrap, IntKind.signed, IntKind.bits] at hw
    have a := hw.1
    have b := hw.2
    simp [IntKind.min, IntKind.max, IntKind.signed, IntKind.bits] at a b
    omega
  refine ⟨UInt8.ofNat n.toNat, ?_⟩
  show [Value.int .u8 n] = [.int .u8 ((UInt8.ofNat n.toNat).toNat : Int)]
  have : ((UInt8.ofNat n.toNat).toNat : Int) = n := by
    rw [UInt8.toNat_ofNat']
    omega
  rw [this]
theorem Opens.str (hc : P.cellsOf e = 1) (ht : P.underlying e = some .string) : Opens P Ty.str e := by
  refine ⟨hc, fun H enc w base spare held fuel cs x h => ?_⟩
  obtain ⟨s, rfl, _⟩ := DataW.trod_string ht h
  exact ⟨s, rfl⟩
theorem Opens.slice {α : Type} {t : Ty α} {T : TypeId} (O : Opens P t e) (hc : P.cellsOf T = 1) (ht : P.underlying T = some (.slice e)) : Opens P (Ty.slice t) T := by
  refine ⟨hc, fun H enc w base spare held fuel cs x h => ?_⟩
  rcases open_slice ht h with ⟨rfl, _⟩ | ⟨a, len, cap, m, n, D, Pl, rfl, hb, hl, hm, hmm, rfl, hx⟩
  · exact ⟨[], none, 0, rfl, Nat.le_refl _, Rd.nil⟩
  · have hlm : len ≤ m := by rw [hmm]; split <;> omega
    rw [O.1] at hx
    have hall : ∀ k, k ≤ len → ∃ (xs : List α) (cs : List Value), xs.length = k ∧ Row t w (Old w) xs cs ∧ ∀ j u, cs[j]? = some u → w.cell? (a.add j) = some u := by
      intro k
      induction k with
      | zero => exact fun _ => ⟨[], [], rfl, rfl, fun j u hu => by simp at hu⟩
      | succ k ih =>
        intro hk
        obtain ⟨xs, cs, h1, h2, h3⟩ := ih (by omega)
        obtain ⟨cs', h4, h5⟩ := hx k (by omega)
        obtain ⟨v, hv⟩ := O.2 H enc w base spare held n cs' _ h5
        obtain ⟨_, h6, h7⟩ := World.cells?_some h4
        refine ⟨xs ++ [v], cs ++ cs', by simp [h1], h2.append (Row.single hv), fun j u hu => ?_⟩
        have hlen := h2.len
        rcases Nat.lt_or_ge j cs.length with hj | hj
        · rw [List.getElem?_append_left hj] at hu
          exact h3 j u hu
        · rw [List.getElem?_append_right hj] at hu
          have hj' : j - cs.length < t.sz := by have := (List.getElem?_eq_some_iff.1 hu).1; omega
          have := h7 _ hj'
          rw [Go.Deep.add_add, hu] at this
          rw [← this]
          congr 2
          rw [hlen, h1] at hj ⊢
          omega
    obtain ⟨xs, cs, h1, h2, h3⟩ := hall len (Nat.le_refl _)
    refine ⟨xs, some a, cap, by rw [h1], by omega, by rw [h1]; unfold Go.maxLen at hm; omega, cs, h2, fun j u hu => ⟨a, rfl, ?_, h3 j u hu⟩⟩
    have := World.block_lt_of_cell? w _ (h3 j u hu)
    rwa [add_block] at this
theorem open_top {α : Type} {t : Ty α} {T : TypeId} {H : Type} {enc : TypeId × Value → H} {w : World} {base : Nat} {spare : Nat → Bool} {held : Bool} {a : Option Addr} {len cap : Nat} {d : DataW H} {ps : List MemPlace} (O : Opens P (Ty.slice t) T)
    (h : DataW.Trod enc P w base spare held T (.slice a len cap) d ps) : ∃ xs : List α, len = xs.length ∧ len ≤ cap ∧ Rd t w (Old w) a xs := by
  obtain ⟨fuel, hf⟩ := h
  obtain ⟨xs, A, c, e, h1, h2⟩ := O.2 H enc w base spare held fuel _ _ hf
  simp [Value.cells] at e
  obtain ⟨rfl, rfl, rfl⟩ := e
  exact ⟨xs, rfl, h1, h2⟩
end
end Go.Proofs.YtfaooohenicfbaaGreatDoor
