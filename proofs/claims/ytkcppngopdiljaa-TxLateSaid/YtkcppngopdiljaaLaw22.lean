/- Laws of layer 14 (tx): written: a transaction, and the document's, of writes. -/
import Derived.Test.YtkcppngopdiljaaLaw20
import Derived.Test.YtkcppngopdiljaaRef14
import Derived.Test.YtkcppngopdiljaaOpen2
import Derived.Deep.RegionHeld3
import Derived.Deep.DeepCutAuto
set_option linter.unusedVariables false
set_option linter.unusedSimpArgs false
namespace Go.Proofs.Ytkcppngopdiljaa
open Go.RowKit

/-- An act as a write. -/
def actW (a : Actn) : Wr := ⟨kq (a.key % 30), if a.gone then [] else [a.row], a.gone⟩
def wrAll (ws : List Wr) (l : List Actn) : List Wr := l.foldl (fun ws a => (wwrite ws (actW a)).1) ws
theorem wrAll_snoc (ws : List Wr) (l : List Actn) (a : Actn) : wrAll ws (l ++ [a]) = (wwrite (wrAll ws l) (actW a)).1 := by unfold wrAll; rw [List.foldl_append]; rfl
theorem wwrite_rising {ws : List Wr} {x : Wr} (h : Rising (ws.map Wr.key)) : Rising ((wwrite ws x).1.map Wr.key) := by
  unfold wwrite
  split
  · exact h
  · exact wput_rising h
theorem wwrite_mem {ws : List Wr} {x y : Wr} (h : y ∈ (wwrite ws x).1) : y = x ∨ y ∈ ws := by
  unfold wwrite at h
  split at h
  · exact .inr h
  · exact mem_wput h
structure WsOk (ws : List Wr) : Prop where
  rising : Rising (ws.map Wr.key)
  len : ws.length ≤ 20
  small : ∀ x ∈ ws, x.key.size = 2 ∧ x.row.length ≤ 1
theorem actW_small (a : Actn) : (actW a).key.size = 2 ∧ (actW a).row.length ≤ 1 := by
  unfold actW
  refine ⟨rfl, ?_⟩
  show (if a.gone then [] else [a.row]).length ≤ 1
  split <;> simp
theorem wrAll_ok {ws : List Wr} (h : WsOk ws) (l : List Actn) : WsOk (wrAll ws l) := by
  unfold wrAll
  induction l generalizing ws with
  | nil => exact h
  | cons a l ih =>
    refine ih ⟨wwrite_rising h.rising, wwrite_len h.rising h.len, fun x hx => ?_⟩
    rcases wwrite_mem hx with rfl | hx
    · exact actW_small a
    · exact h.small x hx
theorem nil_ok : WsOk [] := ⟨List.Pairwise.nil, Nat.zero_le _, fun x hx => by cases hx⟩

theorem run_kq_at (w' : World) (b : Nat) (q : UInt8) (hb : w'.heap[b]? = some (.cells #[.int .u8 107, .int .u8 (q.toNat : Int)] 5 (0, 0))) : (convert 27 9 (.slice (some ⟨b, 0, none⟩) 2 2)).run Try.prog w' = .ok (.string (kq q)) w' := by
  have := run_convert_bytes_arg (P := Try.prog) w' 27 5 Try.underlying27 Try.underlying5 b 0 2 2 [107, (q.toNat : Int)] rfl (fun i hi => by
    rw [Nat.zero_add, blk_cell hb i]
    match i, hi with
    | 0, _ => rfl
    | 1, _ => rfl) 9 Try.underlying9
  have hs : strOfNums [107, (q.toNat : Int)] = kq q := by simp [strOfNums, kq]
  rw [hs] at this
  exact this

/-- The document's transaction in a box. -/
structure TxBox (w : World) (F : Nat → Prop) (b : Nat) (base : Int) (ws : List Wr) : Prop where
  box : ∃ A c, w.heap[b]? = some (.cells #[.int .i64 base, .slice A ws.length c] 34 (0, 0)) ∧ ws.length ≤ c ∧ Rd tWr w F A ws
theorem TxBox.fr {S F : Nat → Prop} {w w' : World} {b : Nat} {base : Int} {ws : List Wr} (h : TxBox w F b base ws) (f : Fr S w w') (hb : ¬ S b) (hd : ∀ k, F k → ¬ S k) : TxBox w' F b base ws := by
  obtain ⟨A, c, h1, h2, h3⟩ := h.box
  exact ⟨A, c, f.blk h1 hb, h2, h3.fr f hd⟩
theorem TxBox.fr0 {F : Nat → Prop} {w w' : World} {b : Nat} {base : Int} {ws : List Wr} (h : TxBox w F b base ws) (f : Fr No w w') : TxBox w' F b base ws := h.fr f (fun f => f) fun _ _ f => f

/-- Both, side by side: the transaction's blocks are its own. -/
structure Both (w wr : World) (xb bx : Nat) (base : Int) (ws : List Wr) : Prop where
  sets : ∃ FX FM : Nat → Prop, TxAt wr FX xb base ws ∧ TxBox wr FM bx base ws ∧ (∀ i, FX i → w.heap.size ≤ i ∧ ¬ FM i ∧ i ≠ bx ∧ i < wr.heap.size) ∧ ∀ i, FM i → w.heap.size ≤ i ∧ i ≠ bx ∧ i < wr.heap.size
  fr : Fr No w wr
  low : w.heap.size ≤ bx
theorem Both.fr0 {w wr w' : World} {xb bx : Nat} {base : Int} {ws : List Wr} (h : Both w wr xb bx base ws) (f : Fr No wr w') : Both w w' xb bx base ws := by
  obtain ⟨⟨FX, FM, h1, h2, h3, h4⟩, h5, h6⟩ := h
  have := f.size
  exact ⟨⟨FX, FM, h1.fr0 f, h2.fr0 f, fun i hi => by have := h3 i hi; exact ⟨this.1, this.2.1, this.2.2.1, by omega⟩, fun i hi => by have := h4 i hi; exact ⟨this.1, this.2.1, by omega⟩⟩, h5.trans (f.mono fun _ _ f => f.elim), h6⟩
end Go.Proofs.Ytkcppngopdiljaa
