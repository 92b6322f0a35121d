/- Laws of layer 9 (trie): TrieOne, TrieOrder: plain. -/
import Derived.Test.YtlgmodeibmdcgaaDoorLaw9c
import Derived.Test.YtlgmodeibmdcgaaDoorRef9f
set_option linter.unusedVariables false
set_option linter.unusedSimpArgs false
namespace Go.Proofs.YtlgmodeibmdcgaaDoor
open Go.RowKit

def xq (q : UInt8) : ByteArray := key2 120 q
theorem xq_key (q : UInt8) : IsKey (xq q) := .inr ⟨q.toNat, q.toNat_lt, by unfold xq; rw [UInt8.ofNat_toNat]⟩
def xputs (m : List Itm) (l : List Act9) : List Itm := l.foldl (fun m a => putL m (xq a.2.1, a.2.2)) m
def xdels (m : List Itm) (l : List Act9) : List Itm := l.foldl (fun m a => delL m (xq a.2.1)) m
/-- Is a key one of the first kind? -/
def notX (k : ByteArray) : Bool := !(k.data[0]? == some 120)
theorem notX_xq (q : UInt8) : notX (xq q) = false := rfl
theorem notX_kq (q : UInt8) : notX (kq q) = true := rfl
theorem putL_filter {m : List Itm} {x : Itm} {p : ByteArray → Bool} (hp : p x.1 = false) : (putL m x).filter (fun y => p y.1) = m.filter (fun y => p y.1) := by
  induction m with
  | nil => simp [putL, hp]
  | cons z m ih =>
    rw [putL_cons]
    split
    · rw [List.filter_cons, List.filter_cons, ih]
    · split
      · rename_i e
        rw [List.filter_cons, List.filter_cons, hp, e, hp]
        rfl
      · rw [List.filter_cons, hp]; rfl
theorem xputs_filter (m : List Itm) (l : List Act9) : (xputs m l).filter (fun y => notX y.1) = m.filter (fun y => notX y.1) := by
  unfold xputs
  induction l generalizing m with
  | nil => rfl
  | cons a l ih => rw [List.foldl_cons, ih, putL_filter (notX_xq _)]
theorem xdels_filter (m : List Itm) (l : List Act9) : xdels m l = m.filter (fun y => !(l.any fun a => decide (y.1 = xq a.2.1))) := by
  unfold xdels
  induction l generalizing m with
  | nil => exact (List.filter_eq_self.2 fun _ _ => rfl).symm
  | cons a l ih =>
    rw [List.foldl_cons, ih]
    unfold delL
    rw [List.filter_filter]
    congr 1; funext y
    rw [List.any_cons, Bool.not_or, Bool.and_comm]
theorem mem_xputs {m : List Itm} {l : List Act9} {y : Itm} (h : y ∈ xputs m l) : y ∈ m ∨ ∃ a ∈ l, y.1 = xq a.2.1 := by
  unfold xputs at h
  induction l generalizing m with
  | nil => exact .inl h
  | cons a l ih =>
    rcases ih h with h | ⟨b, hb, e⟩
    · rcases mem_putL h with e | e
      · exact .inr ⟨a, by simp, by rw [e]⟩
      · exact .inl e
    · exact .inr ⟨b, by simp [hb], e⟩
theorem xdels_xputs {m : List Itm} (hm : ∀ x ∈ m, notX x.1 = true) (l : List Act9) : xdels (xputs m l) l = m := by
  rw [xdels_filter]
  have h1 : (xputs m l).filter (fun y => !(l.any fun a => decide (y.1 = xq a.2.1))) = (xputs m l).filter (fun y => notX y.1) := by
    apply List.filter_congr
    intro y hy
    rcases mem_xputs hy with h | ⟨a, ha, e⟩
    · have h2 := hm y h
      rw [h2]
      have : (l.any fun a => decide (y.1 = xq a.2.1)) = false := by
        rw [List.any_eq_false]
        intro a ha he
        have he' := of_decide_eq_true he
        rw [he', notX_xq] at h2
        cases h2
      rw [this]; rfl
    · have : (l.any fun a => decide (y.1 = xq a.2.1)) = true := List.any_eq_true.2 ⟨a, ha, decide_eq_true e⟩
      rw [this, e, notX_xq]; rfl
  rw [h1, xputs_filter, List.filter_eq_self]
  exact hm
theorem xputs_good {l : List Act9} (hl : ∀ a ∈ l, a.2.2.length ≤ 1000) : ∀ {m : List Itm}, GoodM m → m.length + l.length ≤ 500 → GoodM (xputs m l) ∧ (xputs m l).length ≤ m.length + l.length := by
  unfold xputs
  induction l with
  | nil => intro m g h; exact ⟨g, Nat.le_refl _⟩
  | cons a l ih =>
    intro m g h
    simp only [List.length_cons] at h
    have g1 := g.put (x := (xq a.2.1, a.2.2)) (xq_key _) (hl a (by simp)) (by omega)
    have g2 := putL_len m (xq a.2.1, a.2.2)
    obtain ⟨i1, i2⟩ := ih (fun x hx => hl x (by simp [hx])) g1 (by omega)
    exact ⟨i1, by simp only [List.length_cons, List.foldl_cons]; omega⟩
theorem xdels_good {l : List Act9} {m : List Itm} (g : GoodM m) : GoodM (xdels m l) := by
  rw [xdels_filter]; exact g.sub List.filter_sublist
/-- The items of acts have keys of the first kind. -/
theorem itemsOf_notX (l : List Act9) : ∀ x ∈ itemsOf l, notX x.1 = true := by
  unfold itemsOf
  suffices ∀ m : List Itm, (∀ x ∈ m, notX x.1 = true) → ∀ x ∈ l.foldl stepI m, notX x.1 = true from this [] (fun x hx => by cases hx)
  induction l with
  | nil => exact fun m hm => hm
  | cons a l ih =>
    intro m hm
    rw [List.foldl_cons]
    refine ih _ fun x hx => ?_
    unfold stepI at hx
    split at hx
    · exact hm x (List.mem_filter.1 hx).1
    · rcases mem_putL hx with e | e
      · rw [e]; exact notX_kq _
      · exact hm x e
/-- From the last one on. -/
theorem putL_drop {m : List Itm} (r : RiseI m) {i : Nat} (h : i < m.length) : putL (m.drop (i + 1)) m[i] = m.drop i := by
  rw [putL_last, ← List.drop_eq_getElem_cons h]
  intro y hy
  obtain ⟨j, hj, rfl⟩ := List.mem_drop_iff_getElem.1 hy
  have := List.pairwise_iff_getElem.1 r i (i + 1 + j) (by simp; omega) (by simp; omega) (by omega)
  simpa using this
theorem xputs_take (m : List Itm) (l : List Act9) {k : Nat} (h : k < l.length) : xputs m (l.take (k + 1)) = putL (xputs m (l.take k)) (xq l[k].2.1, l[k].2.2) := by
  unfold xputs
  rw [List.take_succ_eq_append_getElem h, List.foldl_append]; rfl
theorem xdels_take (m : List Itm) (l : List Act9) {k : Nat} (h : k < l.length) : xdels m (l.take (k + 1)) = delL (xdels m (l.take k)) (xq l[k].2.1) := by
  unfold xdels
  rw [List.take_succ_eq_append_getElem h, List.foldl_append]; rfl

/-- A text of two bytes, off its block. -/
theorem run_two_at (w' : World) (b : Nat) (a q : UInt8) {x y : Int} (hx : x = (a.toNat : Int)) (hy : y = (q.toNat : Int)) (hb : w'.heap[b]? = some (.cells #[.int .u8 x, .int .u8 y] 5 (0, 0))) : (convert 30 9 (.slice (some ⟨b, 0, none⟩) 2 2)).run Tryd.prog w' = .ok (.string (key2 a q)) w' := by
  subst hx; subst hy
  have hrd : Rd Ty.u8 w' (fun _ => True) (some ⟨b, 0, none⟩) [a, q] := ⟨by simp, _, row_bytes [a, q], fun j u hu => ⟨_, rfl, trivial, by rw [add0, blk_cell hb, ← Array.getElem?_toList]; exact hu⟩⟩
  exact run_str (c := 2) (n := 2) hrd rfl
/-- Two rising lists of the same items are one. -/
theorem RiseI.ext {l m : List Itm} (hl : RiseI l) (hm : RiseI m) (h : ∀ x, x ∈ l ↔ x ∈ m) : l = m := by
  induction l generalizing m with
  | nil =>
    cases m with
    | nil => rfl
    | cons y m => exact absurd ((h y).2 (by simp)) (List.not_mem_nil)
  | cons x l ih =>
    cases m with
    | nil => exact absurd ((h x).1 (by simp)) (List.not_mem_nil)
    | cons y m =>
      have e : x = y := by
        rcases List.mem_cons.1 ((h x).1 (by simp)) with e | e
        · exact e
        · rcases List.mem_cons.1 ((h y).2 (by simp)) with e' | e'
          · exact e'.symm
          · have h1 := hm.head e
            have h2 := hl.head e'
            rw [kl_asymm h1] at h2; cases h2
      subst e
      congr 1
      refine ih hl.tail hm.tail fun z => ⟨fun hz => ?_, fun hz => ?_⟩
      · rcases List.mem_cons.1 ((h z).1 (by simp [hz])) with e | e
        · have := hl.head hz; rw [e, kl_irrefl] at this; cases this
        · exact e
      · rcases List.mem_cons.1 ((h z).2 (by simp [hz])) with e | e
        · have := hm.head hz; rw [e, kl_irrefl] at this; cases this
        · exact e
theorem mem_putL_iff {m : List Itm} (r : RiseI m) {x y : Itm} : y ∈ putL m x ↔ y = x ∨ (y ∈ m ∧ y.1 ≠ x.1) := by
  induction m with
  | nil => simp [putL]
  | cons z m ih =>
    rw [putL_cons]
    by_cases hk : kl z.1 x.1 = true
    · rw [if_pos hk, List.mem_cons, ih r.tail, List.mem_cons]
      constructor
      · rintro (e | e | e)
        · exact .inr ⟨.inl e, by rw [e]; exact kl_ne hk⟩
        · exact .inl e
        · exact .inr ⟨.inr e.1, e.2⟩
      · rintro (e | ⟨e | e, hn⟩)
        · exact .inr (.inl e)
        · exact .inl e
        · exact .inr (.inr ⟨e, hn⟩)
    · rw [if_neg hk]
      by_cases he : z.1 = x.1
      · rw [if_pos he, List.mem_cons, List.mem_cons]
        constructor
        · rintro (e | e)
          · exact .inl e
          · refine .inr ⟨.inr e, fun h => ?_⟩
            have := r.head e
            rw [he, h, kl_irrefl] at this; cases this
        · rintro (e | ⟨e | e, hn⟩)
          · exact .inl e
          · exact absurd (by rw [e]; exact he) hn
          · exact .inr e
      · rw [if_neg he, List.mem_cons, List.mem_cons]
        have hxz : kl x.1 z.1 = true := by
          cases hx : kl x.1 z.1 with
          | true => rfl
          | false => exact absurd (kl_tri (by simpa using hk) hx) he
        constructor
        · rintro (e | e | e)
          · exact .inl e
          · exact .inr ⟨.inl e, by rw [e]; exact he⟩
          · refine .inr ⟨.inr e, fun h => ?_⟩
            have := kl_trans hxz (r.head e)
            rw [h, kl_irrefl] at this; cases this
        · rintro (e | ⟨e | e, hn⟩)
          · exact .inl e
          · exact .inr (.inl e)
          · exact .inr (.inr e)
end Go.Proofs.YtlgmodeibmdcgaaDoor
