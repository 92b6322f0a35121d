/- Bytes that wait: a slice of one's own, from any place in its array on. -/
import Derived.Test.YtfaooohenicfbaaGreatDoorSha4
import Derived.ArgAppend
set_option linter.unusedVariables false
set_option linter.unusedSimpArgs false
namespace Go.Proofs.YtfaooohenicfbaaGreatDoor
open Go.RowKit

def cells8 (xs : Bs) : List Value := xs.map fun x => .int .u8 (x.toNat : Int)
theorem cells8_len (xs : Bs) : (cells8 xs).length = xs.length := by unfold cells8; simp
theorem cells8_append (xs ys : Bs) : cells8 (xs ++ ys) = cells8 xs ++ cells8 ys := by unfold cells8; simp
theorem cells8_row {w : World} {F : Nat → Prop} (xs : Bs) : Row Ty.u8 w F xs (cells8 xs) := by
  induction xs with
  | nil => rfl
  | cons x xs ih => exact ⟨_, _, rfl, rfl, ih⟩
theorem row_cells8 {w : World} {F : Nat → Prop} {xs : Bs} {cs : List Value} (h : Row Ty.u8 w F xs cs) : cs = cells8 xs := by
  induction xs generalizing cs with
  | nil => exact h
  | cons x xs ih => obtain ⟨c, d, rfl, rfl, h2⟩ := h; rw [ih h2]; rfl

theorem setCells_blk {b : Nat} {t : TypeId} : ∀ (news : List Value) (w : World) (o : Nat) (cur : Array Value), w.heap[b]? = some (.cells cur t (0, 0)) → o + news.length ≤ cur.size →
    ∃ cur', (w.setCells b o news).heap[b]? = some (.cells cur' t (0, 0)) ∧ cur'.size = cur.size ∧ (∀ i, cur'[i]? = if o ≤ i ∧ i < o + news.length then news[i - o]? else cur[i]?) ∧ Fr (fun k => k = b) w (w.setCells b o news)
  | [], w, o, cur, hb, hl => ⟨cur, hb, rfl, fun i => by rw [if_neg (by simp only [List.length_nil]; omega)], Fr.refl _ _⟩
  | v :: vs, w, o, cur, hb, hl => by
    simp only [List.length_cons] at hl
    obtain ⟨cur', h1, h2, h3, h4⟩ := setCells_blk vs (w.setCell ⟨b, o, none⟩ v) (o + 1) _ (blk_set hb o v) (by simp; omega)
    refine ⟨cur', h1, by simpa using h2, fun i => ?_, (Fr.set (F := fun k => k = b) (Fr.refl (fun k => k = b) w) ⟨b, o, none⟩ (.inl rfl) v).trans (h4.mono fun k _ e => .inl e)⟩
    rw [h3 i, Array.getElem?_setIfInBounds]
    simp only [List.length_cons]
    by_cases h : o = i
    · subst h
      rw [if_neg (by omega), if_pos rfl, if_pos (by omega), if_pos (by omega), Nat.sub_self]; rfl
    · by_cases h5 : o + 1 ≤ i ∧ i < o + 1 + vs.length
      · rw [if_pos h5, if_pos (by omega), show i - o = (i - (o + 1)) + 1 by omega]; rfl
      · rw [if_neg h5, if_neg (by omega), if_neg (by omega)]

/-- Bytes that wait; F bounds their block. -/
def Wt (w : World) (F : Nat → Prop) (v : Value) (xs : Bs) : Prop :=
  (v = .slice none 0 0 ∧ xs = []) ∨ ∃ g off cap cur, v = .slice (some ⟨g, off, none⟩) xs.length cap ∧ F g ∧ w.heap[g]? = some (.cells cur 5 (0, 0)) ∧ xs.length ≤ cap ∧ off + cap ≤ cur.size ∧ cap ≤ maxLen ∧ ∀ i, i < xs.length → cur[off + i]? = (cells8 xs)[i]?
theorem Wt.stab {w w' : World} {F : Nat → Prop} {v : Value} {xs : Bs} (h : Wt w F v xs) (k : ∀ k, F k → k < w.heap.size → w'.heap[k]? = w.heap[k]?) : Wt w' F v xs := by
  rcases h with h | ⟨g, off, cap, cur, h1, h2, h3, h4⟩
  · exact .inl h
  · exact .inr ⟨g, off, cap, cur, h1, h2, (k g h2 (blk_lt h3)).trans h3, h4⟩
theorem Wt.fr {S F : Nat → Prop} {w w' : World} {v : Value} {xs : Bs} (h : Wt w F v xs) (f : Fr S w w') (hd : ∀ k, F k → ¬ S k) : Wt w' F v xs := h.stab fun k hk hl => f.block k hl (hd k hk)
theorem Wt.fr0 {F : Nat → Prop} {w w' : World} {v : Value} {xs : Bs} (h : Wt w F v xs) (f : Fr No w w') : Wt w' F v xs := h.fr f fun _ _ f => f
theorem Wt.mono {F G : Nat → Prop} {w : World} {v : Value} {xs : Bs} (h : Wt w F v xs) (k : ∀ k, F k → k < w.heap.size → G k) : Wt w G v xs := by
  rcases h with h | ⟨g, off, cap, cur, h1, h2, h3, h4⟩
  · exact .inl h
  · exact .inr ⟨g, off, cap, cur, h1, k g h2 (blk_lt h3), h3, h4⟩
theorem Wt.form {F : Nat → Prop} {w : World} {v : Value} {xs : Bs} (h : Wt w F v xs) : ∃ A c, v = .slice A xs.length c ∧ xs.length ≤ c ∧ xs.length ≤ 9223372036854775807 := by
  rcases h with ⟨rfl, rfl⟩ | ⟨g, off, cap, cur, rfl, _, _, h4, _, h6, _⟩
  · exact ⟨none, 0, rfl, Nat.le_refl _, by simp⟩
  · exact ⟨_, cap, rfl, h4, by unfold maxLen at h6; omega⟩
theorem info_b8 : (Tryz.prog.info? 5).map (fun i => (i.zero, i.size, i.bytes)) = some (some (.int .u8 0), 1, 1) := by kernel_rfl

theorem Wt.of_owns {w : World} {F : Nat → Prop} {v : Value} {xs : Bs} {base : Nat} (h : w.ownsRow base 5 1 v xs.length (cells8 xs)) (hF : ∀ k, base ≤ k → k < w.heap.size → F k) : Wt w F v xs := by
  rcases h.2 with ⟨rfl, h4⟩ | ⟨g, cap, cur, rfl, hb, hg, hn, hm, hs, ht⟩
  · exact .inl ⟨rfl, List.eq_nil_of_length_eq_zero h4⟩
  · refine .inr ⟨g, 0, cap, cur, rfl, hF g hb (blk_lt hg), hg, hn, by omega, hm, fun i hi => ?_⟩
    rw [Nat.zero_add, ← ht, List.getElem?_take, if_pos (by omega), Array.getElem?_toList]

set_option maxRecDepth 100000 in
/-- append(v, x...). -/
theorem wt_append {w : World} {F : Nat → Prop} {v : Value} {xs ys : Bs} (h : Wt w F v xs) {A : Option Addr} {c : Nat} (hA : At w A (cells8 ys)) (hl : xs.length + ys.length ≤ 140737488355328) (ty : TypeId) :
    ∃ v' w', (Builtin.append_ #[33, 33] ty #[v, .slice A ys.length c]).run Tryz.prog w = .ok v' w' ∧ Wt w' (fun i => F i ∨ w.heap.size ≤ i) v' (xs ++ ys) ∧ Fr F w w' := by
  obtain ⟨i0, hi, hz0, hz1, hz2⟩ := info_parts info_b8
  have hml : xs.length + ys.length ≤ maxLen := by unfold maxLen; omega
  by_cases hy : ys = []
  · subst hy
    have hf : (Builtin.firstCells i0.size 0 (.slice A 0 c)).run Tryz.prog w = .ok #[] w := by cases A <;> simp [Builtin.firstCells, loadCells, loadCellsFrom]
    rcases h with ⟨rfl, rfl⟩ | ⟨g, off, cap, cur, rfl, h2, h3, h4, h5⟩
    · refine ⟨.slice none 0 0, w, ?_, .inl ⟨rfl, rfl⟩, Fr.refl _ _⟩
      simp [Builtin.append_, run_underlying Tryz.underlying33, sizeOf, typeInfo, hi, Builtin.lenOf, hf]
    · refine ⟨.slice (some ⟨g, off, none⟩) xs.length cap, w, ?_, .inr ⟨g, off, cap, cur, by simp, .inl h2, h3, by simpa using h4, by simpa using h5⟩, Fr.refl _ _⟩
      simp [Builtin.append_, run_underlying Tryz.underlying33, sizeOf, typeInfo, hi, Builtin.lenOf, hf, h4, storeCells]
  · have hy1 : 0 < ys.length := List.length_pos_iff.2 hy
    obtain ⟨ad, rfl, _⟩ := hA 0 _ (List.getElem?_eq_getElem (by rw [cells8_len]; exact hy1))
    have hnews : ∀ j u, (cells8 ys)[j]? = some u → w.cell? (ad.add j) = some u := fun j u hu => by
      obtain ⟨ad', e', hc⟩ := hA j u hu
      obtain rfl := Option.some.inj e'
      exact hc
    have hone : ∀ u ∈ cells8 ys, u.oneCell' = true := (cells8_row (w := w) (F := F) ys).one
    rcases h with ⟨rfl, rfl⟩ | ⟨g, off, cap, cur, rfl, h2, h3, h4, h5, h6, h7⟩
    · obtain ⟨g, cap, w', hr, ho, hg, _, _⟩ := run_append_lies (P := Tryz.prog) w 33 ty w.heap.size 5 i0 _ 1 1 Tryz.underlying33 hi hz0 hz1 hz2 rfl (by decide) _ 0 [] (World.ownsRow_nil w w.heap.size 5 1) ad ys.length c (cells8 ys) (by rw [cells8_len, Nat.mul_one]) hnews hone hy1 (by simp only [List.length_nil, Nat.zero_add] at hml; omega) (by simp only [List.length_nil] at hl; omega) (Nat.le_refl _) w.heap.size rfl
      simp only [Nat.zero_add, List.nil_append] at hr ho
      exact ⟨_, w', hr, (Wt.of_owns ho fun k hk _ => .inr hk), (Fr.refl _ w).grown hg fun k hk => by cases hk⟩
    · have hold : ∀ j u, (cells8 xs)[j]? = some u → w.cell? ⟨g, off + j, none⟩ = some u := fun j u hu => by
        have hj := (List.getElem?_eq_some_iff.1 hu).1
        rw [cells8_len] at hj
        rw [blk_cell h3, h7 j hj]; exact hu
      by_cases hr : xs.length + ys.length ≤ cap
      · have hrun := run_append_room_cells (P := Tryz.prog) w 33 ty 5 i0 Tryz.underlying33 hi g off xs.length cap ad ys.length c (cells8 ys) (by rw [cells8_len, hz1, Nat.mul_one]) hnews hone hr (fun j hj => by
          rw [cells8_len] at hj
          rw [hz1, Nat.mul_one, blk_cell h3, Array.getElem?_eq_getElem (by omega)]; rfl) (fun j hj => by rw [hz1, Nat.mul_one]; exact blk_frozen h3 _)
        rw [hz1, Nat.mul_one] at hrun
        obtain ⟨cur', k1, k2, k3, k4⟩ := setCells_blk (cells8 ys) w (off + xs.length) cur h3 (by rw [cells8_len]; omega)
        refine ⟨_, _, hrun, .inr ⟨g, off, cap, cur', by rw [List.length_append], .inl h2, k1, by rw [List.length_append]; exact hr, by omega, h6, fun i hi => ?_⟩, k4.mono fun k _ e => by rw [e]; exact h2⟩
        rw [List.length_append] at hi
        rw [k3, cells8_len, cells8_append]
        by_cases hlt : i < xs.length
        · rw [if_neg (by omega), h7 i hlt, List.getElem?_append_left (by rw [cells8_len]; exact hlt)]
        · rw [if_pos (by omega), List.getElem?_append_right (by rw [cells8_len]; omega), cells8_len]
          congr 1; omega
      · obtain ⟨v', w', hrun, ho, hg⟩ := run_append_arg_grows (P := Tryz.prog) w 33 ty 5 i0 _ 1 1 Tryz.underlying33 hi hz0 hz1 hz2 rfl (by decide) ⟨g, off, none⟩ xs.length cap (cells8 xs) (by rw [cells8_len, Nat.mul_one]) (fun j u hj => by rw [Addr.add_lit]; exact hold j u hj) ad ys.length c (cells8 ys) (by rw [cells8_len, Nat.mul_one]) hnews (by omega) hml (by omega)
        rw [← cells8_append, ← List.length_append] at ho
        exact ⟨v', w', hrun, Wt.of_owns ho fun k hk _ => .inr hk, (Fr.refl _ w).grown hg fun k hk => by cases hk⟩

/-- The first 64, and those behind. -/
theorem Wt.head {w : World} {F : Nat → Prop} {A : Option Addr} {n c : Nat} {xs : Bs} (h : Wt w F (.slice A n c) xs) (h64 : 64 ≤ xs.length) : n = xs.length ∧ 64 ≤ c ∧ Rd Ty.u8 w F A (xs.take 64) ∧
    (∀ W, (Instr.slice 33 (.slice A n c) none (some (.int .i64 64)) none).run Tryz.prog W = .ok (.slice A 64 c) W) ∧
    ∃ A', (∀ W, (Instr.slice 33 (.slice A n c) (some (.int .i64 64)) none none).run Tryz.prog W = .ok (.slice A' (n - 64) (c - 64)) W) ∧ Wt w F (.slice A' (n - 64) (c - 64)) (xs.drop 64) := by
  rcases h with ⟨h1, rfl⟩ | ⟨g, off, cap, cur, h1, h2, h3, h4, h5, h6, h7⟩
  · simp at h64
  · injection h1 with e1 e2 e3
    subst e1; subst e2; subst e3
    have hu : Tryz.prog.underlying 33 = some (.slice (Tryz.prog.elem 33)) := by kernel_rfl
    have hel : Tryz.prog.elem 33 = 5 := by kernel_rfl
    obtain ⟨i0, hi, hz0, hz1, hz2⟩ := info_parts info_b8
    refine ⟨rfl, by omega, ⟨by simp; omega, cells8 (xs.take 64), cells8_row _, fun j u hj => ?_⟩, fun W => ?_, ?_⟩
    · have hj' := (List.getElem?_eq_some_iff.1 hj).1
      rw [cells8_len, List.length_take] at hj'
      refine ⟨_, rfl, h2, ?_⟩
      rw [Addr.add_lit, blk_cell h3, h7 j (by omega)]
      unfold cells8 at hj ⊢
      rw [List.getElem?_map, List.getElem?_take, if_pos (by omega)] at hj
      rw [List.getElem?_map]; exact hj
    · have hc0 : ¬ c = 0 := by omega
      have := run_slice_h (P := Tryz.prog) W 33 (some ⟨g, off, none⟩) xs.length c hu .i64 64 (by omega) (by omega)
      rw [this, hel]
      simp [sizeOf, typeInfo, hi, hz1, sliced, Result.andThen, hc0, Addr.add]
    · have hrun := fun W => run_slice_l (P := Tryz.prog) W 33 (some ⟨g, off, none⟩) xs.length c hu .i64 64 (by omega) (by omega)
      by_cases hc : c = 64
      · refine ⟨some ⟨g, off, none⟩, fun W => ?_, .inr ⟨g, off, c - 64, cur, by simp, h2, h3, by simp; omega, by omega, by omega, fun i hi => ?_⟩⟩
        · rw [hrun, hel]
          simp [sizeOf, typeInfo, hi, hz1, sliced, Result.andThen, hc]
        · simp at hi; omega
      · refine ⟨some ⟨g, off + 64, none⟩, fun W => ?_, .inr ⟨g, off + 64, c - 64, cur, by simp, h2, h3, by simp; omega, by omega, by omega, fun i hi => ?_⟩⟩
        · rw [hrun, hel]
          simp [sizeOf, typeInfo, hi, hz1, sliced, Result.andThen, hc, Addr.add]
        · rw [List.length_drop] at hi
          rw [Nat.add_assoc, h7 (64 + i) (by omega)]
          unfold cells8
          rw [List.getElem?_map, List.getElem?_map, List.getElem?_drop]
end Go.Proofs.YtfaooohenicfbaaGreatDoor
