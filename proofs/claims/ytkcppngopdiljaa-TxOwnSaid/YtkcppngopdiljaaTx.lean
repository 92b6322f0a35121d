/- Layer 14 (tx): how a transaction lies in memory; New, Base, write. -/
import Derived.Test.YtkcppngopdiljaaSpec14
import Derived.Test.YtkcppngopdiljaaStore2
import Derived.Test.YtkcppngopdiljaaKeys
import Derived.Test.YtkcppngopdiljaaRef1
set_option linter.unusedVariables false
set_option linter.unusedSimpArgs false
namespace Go.Proofs.Ytkcppngopdiljaa
open Go.RowKit

/-- A write as a value. -/
def WrIs (w : World) (F : Nat → Prop) (v : Value) (x : Wr) : Prop := ∃ A c, v = .agg #[.string x.key, .slice A x.row.length c, .bool x.gone] ∧ x.row.length ≤ c ∧ Rd Ty.u8 w F A x.row
theorem WrIs.stab {w w' : World} {F : Nat → Prop} {v : Value} {x : Wr} (h : WrIs w F v x) (k : ∀ k, F k → k < w.heap.size → w'.heap[k]? = w.heap[k]?) : WrIs w' F v x := by
  obtain ⟨A, c, e, h1, h2⟩ := h
  exact ⟨A, c, e, h1, h2.stab k⟩
theorem WrIs.mono {w : World} {F G : Nat → Prop} {v : Value} {x : Wr} (h : WrIs w F v x) (k : ∀ k, F k → k < w.heap.size → G k) : WrIs w G v x := by
  obtain ⟨A, c, e, h1, h2⟩ := h
  exact ⟨A, c, e, h1, h2.mono k⟩
/-- A map's values are the writes. -/
structure TxHeld (w : World) (F : Nat → Prop) (l : List (ByteArray × Value)) (ws : List Wr) : Prop where
  rising : Rising (ws.map Wr.key)
  none_ : ∀ k, wfind k ws = none → look k l = none
  some_ : ∀ k x, wfind k ws = some x → ∃ v, look k l = some v ∧ WrIs w F v x
section
variable {w w' : World} {F G : Nat → Prop} {l : List (ByteArray × Value)} {ws : List Wr}
theorem TxHeld.stab (h : TxHeld w F l ws) (k : ∀ k, F k → k < w.heap.size → w'.heap[k]? = w.heap[k]?) : TxHeld w' F l ws :=
  ⟨h.rising, h.none_, fun key x hx => by obtain ⟨v, h1, h2⟩ := h.some_ key x hx; exact ⟨v, h1, h2.stab k⟩⟩
theorem TxHeld.mono (h : TxHeld w F l ws) (k : ∀ k, F k → k < w.heap.size → G k) : TxHeld w G l ws :=
  ⟨h.rising, h.none_, fun key x hx => by obtain ⟨v, h1, h2⟩ := h.some_ key x hx; exact ⟨v, h1, h2.mono k⟩⟩
theorem TxHeld.look_iff (h : TxHeld w F l ws) (k : ByteArray) : look k l = none ↔ k ∉ ws.map Wr.key := by
  rw [← wfind_none]
  constructor
  · intro hl
    cases hx : wfind k ws with
    | none => rfl
    | some x => obtain ⟨v, h1, _⟩ := h.some_ k x hx; rw [hl] at h1; cases h1
  · exact h.none_ k
theorem TxHeld.len (h : TxHeld w F l ws) (hn : (l.map Prod.fst).Nodup) : l.length = ws.length := by
  have := (keys_perm h.rising hn h.look_iff).length_eq
  simpa using this
theorem TxHeld.put (h : TxHeld w F l ws) {v : Value} {x : Wr} (hx : WrIs w F v x) : TxHeld w F (lay x.key v l) (wput x ws) := by
  refine ⟨wput_rising h.rising, fun k hk => ?_, fun k y hy => ?_⟩
  · rw [wfind_wput h.rising] at hk
    rw [look_lay]
    split at hk
    · cases hk
    · rename_i e; rw [if_neg e]; exact h.none_ k hk
  · rw [wfind_wput h.rising] at hy
    rw [look_lay]
    split at hy
    · rename_i e; injection hy with hy; subst hy; rw [if_pos e]; exact ⟨v, rfl, hx⟩
    · rename_i e; rw [if_neg e]; exact h.some_ k y hy
end

/-- A transaction behind a pointer; F bounds all its blocks. -/
def TxAt (w : World) (F : Nat → Prop) (xb : Nat) (base : Int) (ws : List Wr) : Prop :=
  F xb ∧ ∃ mb l, F mb ∧ mb ≠ xb ∧ w.heap[xb]? = some (.cells #[.int .i64 base, .map (some mb)] 75 (0, 0)) ∧ MapIs w mb l ∧ TxHeld w (fun i => F i ∧ i ≠ xb ∧ i ≠ mb) l ws
section
variable {w w' : World} {F F' : Nat → Prop} {xb : Nat} {base : Int} {ws : List Wr}
theorem TxAt.stab (h : TxAt w F xb base ws) (k : ∀ k, F k → k < w.heap.size → w'.heap[k]? = w.heap[k]?) : TxAt w' F xb base ws := by
  obtain ⟨h1, mb, l, h2, h3, h4, h5, h6⟩ := h
  exact ⟨h1, mb, l, h2, h3, (k _ h1 (blk_lt h4)).trans h4, h5.stab (k _ h2 h5.lt), h6.stab fun i hi hl => k i hi.1 hl⟩
theorem TxAt.fr {S : Nat → Prop} (h : TxAt w F xb base ws) (f : Fr S w w') (hd : ∀ k, F k → ¬ S k) : TxAt w' F xb base ws := h.stab fun k hk hl => f.block k hl (hd k hk)
theorem TxAt.fr0 (h : TxAt w F xb base ws) (f : Fr No w w') : TxAt w' F xb base ws := h.stab fun k hk hl => f.block k hl (fun f => f)
theorem TxAt.mono (h : TxAt w F xb base ws) (k : ∀ k, F k → k < w.heap.size → F' k) : TxAt w F' xb base ws := by
  obtain ⟨h1, mb, l, h2, h3, h4, h5, h6⟩ := h
  exact ⟨k _ h1 (blk_lt h4), mb, l, k _ h2 h5.lt, h3, h4, h5, h6.mono fun i hi hl => ⟨k i hi.1 hl, hi.2⟩⟩
theorem TxAt.rising (h : TxAt w F xb base ws) : Rising (ws.map Wr.key) := by
  obtain ⟨h1, mb, l, h2, h3, h4, h5, h6⟩ := h
  exact h6.rising
end

theorem zero_wr (w : World) : (zeroValue 43).run Try.prog w = .ok (.agg #[.string ⟨#[]⟩, .slice none 0 0, .bool false]) w := by kernel_rfl

theorem tx_new (base : Int) (w : World) : Calls Try.prog 11 #[.int .i64 base] w fun e w' => ∃ b, e = .returned (.pointer (some ⟨b, 0, none⟩)) ∧ TxAt w' (fun k => w.heap.size ≤ k) b base [] ∧ Fr No w w' := by
  have hmm := @run_makeMap Try.prog
  go_enter Try.func11, Try.ntmps11
  go_wp2
  go_ret
  refine ⟨w.heap.size + 1, rfl, ⟨by omega, w.heap.size, [], Nat.le_refl _, by omega, ?_, ?_, ⟨List.Pairwise.nil, fun _ _ => rfl, fun k x h => by cases h⟩⟩, ((Fr.refl No w).alloc _).alloc _⟩
  · exact blk_two2 w _ _
  · exact (MapIs.new w).stab (Below.heap_alloc _ _ _ (by simp))
theorem tx_base_nil (w : World) : Calls Try.prog 16 #[.pointer none] w fun e w' => e = .returned (.int .i64 0) ∧ w' = w := by
  go_enter Try.func16, Try.ntmps16
  go_wp2
  go_ret
  exact ⟨rfl, rfl⟩
theorem tx_base {w : World} {F : Nat → Prop} {xb : Nat} {base : Int} {ws : List Wr} (h : TxAt w F xb base ws) : Calls Try.prog 16 #[.pointer (some ⟨xb, 0, none⟩)] w fun e w' => e = .returned (.int .i64 base) ∧ w' = w := by
  obtain ⟨h1, mb, l, h2, h3, h4, h5, h6⟩ := h
  have c0 := blk_cell h4 0
  clear h1 h2 h3 h4 h5 h6
  simp at c0
  go_enter Try.func16, Try.ntmps16
  go_wp2
  go_ret
  exact ⟨rfl, rfl⟩
theorem tx_write_nil (v : Value) (k : ByteArray) (A : Option Addr) (n c : Nat) (g : Bool) (w : World) (hv : v = .agg #[.string k, .slice A n c, .bool g]) : Calls Try.prog 30 #[.pointer none, v] w fun e w' => e = .returned (.int .i64 5) ∧ Fr No w w' := by
  subst hv
  go_enter Try.func30, Try.ntmps30
  go_wp2
  go_ret
  exact ⟨rfl, (Fr.refl No w).alloc _⟩
end Go.Proofs.Ytkcppngopdiljaa
