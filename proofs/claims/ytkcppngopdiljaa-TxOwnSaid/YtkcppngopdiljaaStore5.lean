/- Layer 13 (store): Trim. -/
import Derived.Test.YtkcppngopdiljaaStore4
set_option linter.unusedVariables false
set_option linter.unusedSimpArgs false
namespace Go.Proofs.Ytkcppngopdiljaa
open Go.RowKit

theorem slay_at {β : Type} {l : List (ByteArray × β)} (h : Rising (l.map Prod.fst)) {j : Nat} {k : ByteArray} {v0 v : β} (hj : l[j]? = some (k, v0)) : slay k v l = l.set j (k, v) := by
  induction l generalizing j with
  | nil => simp at hj
  | cons p l ih =>
    obtain ⟨h1, h2⟩ := List.pairwise_cons.1 h
    rw [slay_cons]
    cases j with
    | zero =>
      obtain rfl : p = (k, v0) := by simpa using hj
      rw [if_neg (by simp [kl_irrefl]), if_pos rfl]
      rfl
    | succ j =>
      have hj' : l[j]? = some (k, v0) := by simpa using hj
      have hk := h1 k (List.mem_map.2 ⟨_, List.mem_of_getElem? hj', rfl⟩)
      rw [if_neg (by rw [kl_asymm hk]; simp), if_neg (fun e => kl_ne hk e.symm), ih h2 hj']
      rfl

namespace Sto
/-- k chains are trimmed. -/
def trimK (s : Sto) (a : Int) (k : Nat) : List (ByteArray × Chn) := (s.kc.take k).map (fun p => (p.1, p.2.trim a)) ++ s.kc.drop k
theorem trimK_zero (s : Sto) (a : Int) : s.trimK a 0 = s.kc := by simp [trimK]
theorem trimK_all (s : Sto) (a : Int) : s.trimK a s.kc.length = (s.trim a).kc := by simp [trimK, trim]
theorem trimK_keys (s : Sto) (a : Int) (k : Nat) : (s.trimK a k).map Prod.fst = s.kc.map Prod.fst := by
  unfold trimK
  rw [List.map_append, List.map_map]
  have : (Prod.fst ∘ fun p : ByteArray × Chn => (p.1, p.2.trim a)) = Prod.fst := rfl
  rw [this, ← List.map_append, List.take_append_drop]
theorem trimK_at {s : Sto} {a : Int} {k : Nat} (hk : k < s.kc.length) : (s.trimK a k)[k]? = some s.kc[k] := by
  unfold trimK
  rw [List.getElem?_append_right (by simp; omega)]
  simp [Nat.min_eq_left (Nat.le_of_lt hk), hk]
theorem trimK_succ {s : Sto} {a : Int} {k : Nat} (hk : k < s.kc.length) : (s.trimK a k).set k (s.kc[k].1, s.kc[k].2.trim a) = s.trimK a (k + 1) := by
  unfold trimK
  rw [List.take_succ_eq_append_getElem hk, List.map_append, List.append_assoc]
  rw [List.set_append, if_neg (by simp; omega)]
  congr 1
  rw [List.length_map, List.length_take, Nat.min_eq_left (Nat.le_of_lt hk), Nat.sub_self, List.drop_eq_getElem_cons hk]
  rfl
end Sto

/-- What the loop holds at a round's head. -/
structure TrimInv (w w1 : World) (F : Nat → Prop) (sb mb : Nat) (l : List (ByteArray × Value)) (s : Sto) (a : Int) (k n : Nat) (wr : World) : Prop where
  le : k ≤ s.kc.length
  sum : n = ((s.kc.map fun p => p.2.cut a).take k).sum
  blk : wr.heap[sb]? = some (.cells #[.map (some mb), .int .i64 s.now] 91 (0, 0))
  mp : MapIs wr mb l
  held : ∃ G, Held wr l (s.trimK a k) G ∧ ∀ k i, G k i → ((F i ∧ i < w.heap.size) ∨ w1.heap.size ≤ i) ∧ i ≠ sb ∧ i ≠ mb
  fr : Fr (fun i => F i ∧ i < w.heap.size) w1 wr

theorem store_scan_nil (a most : Int) (lo hi : ByteArray) (w : World) : Calls Try.prog 45 #[.pointer none, .int .i64 a, .string lo, .string hi, .int .i64 most] w fun e w' => e = .returned (.slice none 0 0) ∧ w' = w := by
  go_enter Try.func45, Try.ntmps45
  go_wp2_with (go_at_call 66; refine (store_keys_nil _).mono ?_; rintro e w1 ⟨rfl, rfl⟩)
  refine wp_loop_rounds 1 ?_; rw [rounds_succ]
  go_wp2
  go_ret
  exact ⟨rfl, rfl⟩
end Go.Proofs.Ytkcppngopdiljaa
